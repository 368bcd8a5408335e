/-
  Parts of the proofs of this seat: what the functions compute. No condition beyond what each theorem states.
-/
import Derived.Test.YtklmaeefnmcmlaaDoorF
import Derived.Test.YtklmaeefnmcmlaaDoorRK
import Derived.Test.YtklmaeefnmcmlaaDoorA
import Derived.Test.YtklmaeefnmcmlaaDoorB
import Derived.Test.YtklmaeefnmcmlaaDoorC
set_option linter.unusedVariables false
set_option linter.unusedSimpArgs false
set_option maxRecDepth 100000
namespace Go.Proofs.YtklmaeefnmcmlaaDoor.C
open Go Go.RowKit Go.Proofs.YtklmaeefnmcmlaaDoor Go.Proofs.YtklmaeefnmcmlaaDoor.Sh Go.Proofs.YtklmaeefnmcmlaaDoor.F Go.Proofs.YtklmaeefnmcmlaaDoor.R

/-! ### class, and its document: what they compute -/
def clsOf (n : Int) : Int := if n < 1 then -1 else if 4096 < n then -1 else if n ≤ 16 then 0 else if n ≤ 24 then 1 else if n ≤ 32 then 2 else if n ≤ 48 then 3 else if n ≤ 64 then 4 else if n ≤ 96 then 5 else if n ≤ 128 then 6 else 7
def clsSize (c : Int) : Int := if c = 0 then 16 else if c = 1 then 24 else if c = 2 then 32 else if c = 3 then 48 else if c = 4 then 64 else if c = 5 then 96 else if c = 6 then 128 else 0
def clsSlots (c : Int) : Int := if c = 7 then 1 else if c = 0 then 16 else if c = 1 then 10 else if c = 2 then 8 else if c = 3 then 5 else if c = 4 then 4 else if c = 5 then 2 else if c = 6 then 2 else 0
def clsPages (n : Int) : Int := if clsOf n < 0 then 0 else if clsOf n < 7 then 1 else (n + 255) / 256

theorem clsOf_range (n : Int) : -1 ≤ clsOf n ∧ clsOf n ≤ 7 := by unfold clsOf; repeat' split <;> omega
theorem clsPages_range (n : Int) : 0 ≤ clsPages n ∧ clsPages n ≤ 16 := by
  unfold clsPages
  split
  · omega
  · split
    · omega
    · have : n ≤ 4096 ∧ 1 ≤ n := by
        rename_i h1 h2
        unfold clsOf at h1
        by_cases a : n < 1
        · rw [if_pos a] at h1; omega
        · rw [if_neg a] at h1
          by_cases b : 4096 < n
          · rw [if_pos b] at h1; omega
          · omega
      omega

theorem class_Of_c {n : Int} {K : Value → World → Prop} {w : World} (h : K (.int .i64 (clsOf n)) w) : CallsE Pg class_Of.N #[.int .i64 n] w K := by
  refine class_Of.ok ?_
  unfold clsOf at h
  have W : ∀ x : Int, 0 ≤ x → x ≤ 7 → IntKind.wrap .i64 (x - 1) = x - 1 := fun x a b => wrap64_in (by omega) (by omega)
  refine cond_dec (fun h1 => ?_) (fun h1 => ?_)
  · rw [if_pos h1] at h; exact h
  rw [if_neg h1] at h
  refine cond_dec (fun h2 => ?_) (fun h2 => ?_)
  · rw [if_pos h2] at h; exact h
  rw [if_neg h2] at h
  refine cond_dec (fun h3 => ?_) (fun h3 => ?_)
  · rw [if_pos h3] at h; exact h
  rw [if_neg h3] at h
  refine cond_dec (fun h3 => ?_) (fun h3 => ?_)
  · rw [if_pos h3] at h; exact h
  rw [if_neg h3] at h
  refine cond_dec (fun h3 => ?_) (fun h3 => ?_)
  · rw [if_pos h3] at h; exact h
  rw [if_neg h3] at h
  refine cond_dec (fun h3 => ?_) (fun h3 => ?_)
  · rw [if_pos h3] at h; exact h
  rw [if_neg h3] at h
  refine cond_dec (fun h3 => ?_) (fun h3 => ?_)
  · rw [if_pos h3] at h; exact h
  rw [if_neg h3] at h
  refine cond_dec (fun h3 => ?_) (fun h3 => ?_)
  · rw [if_pos h3] at h; exact h
  rw [if_neg h3] at h
  refine cond_dec (fun h3 => ?_) (fun h3 => ?_)
  · rw [if_pos h3] at h; exact h
  rw [if_neg h3] at h
  exact h

theorem class_Size_c {c : Int} {K : Value → World → Prop} {w : World} (h : K (.int .i64 (clsSize c)) w) : CallsE Pg class_Size.N #[.int .i64 c] w K := by
  refine class_Size.ok ?_
  refine cond_dec (fun h1 => ?_) (fun h1 => ?_)
  · have : clsSize c = 0 := by unfold clsSize; repeat' rw [if_neg (by omega)]
    rw [this] at h; exact h
  refine cond_dec (fun h2 => ?_) (fun h2 => ?_)
  · have : clsSize c = 0 := by unfold clsSize; repeat' rw [if_neg (by omega)]
    rw [this] at h; exact h
  have hc : c = 0 ∨ c = 1 ∨ c = 2 ∨ c = 3 ∨ c = 4 ∨ c = 5 ∨ c = 6 := by omega
  rcases hc with rfl | rfl | rfl | rfl | rfl | rfl | rfl <;>
    exact ⟨by decide, by decide, by decide, by first | exact ⟨by decide, h⟩ | exact h⟩

theorem ref06_Size_c {c : Int} {K : Value → World → Prop} {w : World} (h : K (.int .i64 (clsSize c)) w) : CallsE Pg ref06_Size.N #[.int .i64 c] w K := by
  refine ref06_Size.ok ?_
  refine cond_dec (fun h1 => ?_) (fun h1 => ?_)
  · have : clsSize c = 0 := by unfold clsSize; repeat' rw [if_neg (by omega)]
    rw [this] at h; exact h
  refine cond_dec (fun h2 => ?_) (fun h2 => ?_)
  · have : clsSize c = 0 := by unfold clsSize; repeat' rw [if_neg (by omega)]
    rw [this] at h; exact h
  have hc : c = 0 ∨ c = 1 ∨ c = 2 ∨ c = 3 ∨ c = 4 ∨ c = 5 ∨ c = 6 := by omega
  rcases hc with rfl | rfl | rfl | rfl | rfl | rfl | rfl <;> exact ⟨by decide, _, rfl, h⟩

theorem class_Slots_c {c : Int} {K : Value → World → Prop} {w : World} (h : K (.int .i64 (clsSlots c)) w) : CallsE Pg class_Slots.N #[.int .i64 c] w K := by
  refine class_Slots.ok ?_
  refine cond_eq (fun h1 => ?_) (fun h1 => ?_)
  · subst h1; exact h
  refine class_Size_c ⟨_, rfl, ?_⟩
  by_cases hc : c = 0 ∨ c = 1 ∨ c = 2 ∨ c = 3 ∨ c = 4 ∨ c = 5 ∨ c = 6
  · rcases hc with rfl | rfl | rfl | rfl | rfl | rfl | rfl <;> exact ⟨by decide, h⟩
  · have e1 : clsSize c = 0 := by unfold clsSize; repeat' rw [if_neg (by omega)]
    have e2 : clsSlots c = 0 := by unfold clsSlots; repeat' rw [if_neg (by omega)]
    rw [e1]
    rw [e2] at h
    exact h
theorem ref06_Slots_c {c : Int} {K : Value → World → Prop} {w : World} (h : K (.int .i64 (clsSlots c)) w) : CallsE Pg ref06_Slots.N #[.int .i64 c] w K := by
  refine ref06_Slots.ok ?_
  refine cond_eq (fun h1 => ?_) (fun h1 => ?_)
  · subst h1; exact h
  refine ref06_Size_c ⟨_, rfl, ?_⟩
  by_cases hc : c = 0 ∨ c = 1 ∨ c = 2 ∨ c = 3 ∨ c = 4 ∨ c = 5 ∨ c = 6
  · refine cond_eq (fun h2 => ?_) (fun h2 => ?_)
    · exact absurd h2 (by rcases hc with rfl | rfl | rfl | rfl | rfl | rfl | rfl <;> decide)
    refine ref06_Size_c ⟨_, rfl, h2, ?_⟩
    rcases hc with rfl | rfl | rfl | rfl | rfl | rfl | rfl <;> exact h
  · have e1 : clsSize c = 0 := by unfold clsSize; repeat' rw [if_neg (by omega)]
    have e2 : clsSlots c = 0 := by unfold clsSlots; repeat' rw [if_neg (by omega)]
    rw [e1]
    rw [e2] at h
    exact h
theorem clsOf_big {n : Int} (h : ¬ clsOf n < 0) : 1 ≤ n ∧ n ≤ 4096 := by
  unfold clsOf at h
  by_cases a : n < 1
  · rw [if_pos a] at h; omega
  · rw [if_neg a] at h
    by_cases b : 4096 < n
    · rw [if_pos b] at h; omega
    · omega
theorem class_Pages_c {n : Int} {K : Value → World → Prop} {w : World} (h : K (.int .i64 (clsPages n)) w) : CallsE Pg class_Pages.N #[.int .i64 n] w K := by
  refine class_Pages.ok (class_Of_c ⟨_, rfl, ?_⟩)
  unfold clsPages at h
  refine cond_dec (fun h1 => ?_) (fun h1 => ?_)
  · rw [if_pos h1] at h; exact h
  rw [if_neg h1] at h
  refine cond_dec (fun h2 => ?_) (fun h2 => ?_)
  · rw [if_pos h2] at h; exact h
  rw [if_neg h2] at h
  have hb := clsOf_big h1
  refine ⟨by decide, ?_⟩
  have e : IntKind.wrap .i64 (Int.tdiv (IntKind.wrap .i64 ((IntKind.wrap .i64 (n + (256 : Int))) - (1 : Int))) 256) = (n + 255) / 256 := by
    rw [wrap64_in (x := n + 256) (by omega) (by omega), wrap64_in (x := n + 256 - 1) (by omega) (by omega), Int.tdiv_eq_ediv_of_nonneg (by omega), wrap64_in (by omega) (by omega)]
    congr 1
    omega
  rw [e]
  exact h
theorem clsOf_le {n c : Int} (h1 : 1 ≤ n) (h2 : n ≤ 4096) (h3 : 0 ≤ c) (h4 : c ≤ 6) : n ≤ clsSize c ↔ clsOf n ≤ c := by
  have hcc : c = 0 ∨ c = 1 ∨ c = 2 ∨ c = 3 ∨ c = 4 ∨ c = 5 ∨ c = 6 := by omega
  have n1 : ¬ n < 1 := by omega
  have n2 : ¬ 4096 < n := by omega
  unfold clsOf
  rw [if_neg n1, if_neg n2]
  rcases hcc with rfl | rfl | rfl | rfl | rfl | rfl | rfl
  · show n ≤ 16 ↔ _
    repeat' split <;> omega
  · show n ≤ 24 ↔ _
    repeat' split <;> omega
  · show n ≤ 32 ↔ _
    repeat' split <;> omega
  · show n ≤ 48 ↔ _
    repeat' split <;> omega
  · show n ≤ 64 ↔ _
    repeat' split <;> omega
  · show n ≤ 96 ↔ _
    repeat' split <;> omega
  · show n ≤ 128 ↔ _
    repeat' split <;> omega
/-- The document's loop over the classes. -/
theorem ref06_Of_loop {n : Int} (h1 : 1 ≤ n) (h2 : n ≤ 4096) {K : Value → World → Prop} {w : World} (h : K (.int .i64 (clsOf n)) w) : ∀ (d : Nat) (c : Int), 0 ≤ c → c + d = 7 → c ≤ clsOf n → ref06_Of.l0 K (d + 1) n c w := by
  intro d
  induction d with
  | zero =>
    intro c h0 h7 hc
    rw [ref06_Of.l0_succ]
    refine cond_dec (fun h3 => by omega) (fun h3 => ?_)
    have : clsOf n = 7 := by have := clsOf_range n; omega
    rw [this] at h
    exact h
  | succ d ih =>
    intro c h0 h7 hc
    rw [ref06_Of.l0_succ]
    refine cond_dec (fun h3 => ?_) (fun h3 => by omega)
    refine ref06_Size_c ⟨_, rfl, ?_⟩
    have W : IntKind.wrap .i64 (c + 1) = c + 1 := wrap64_in (by omega) (by omega)
    have kk := clsOf_le h1 h2 h0 (show c ≤ 6 by omega)
    have key : (n ≤ clsSize c → clsOf n = c) ∧ (¬ n ≤ clsSize c → c + 1 ≤ clsOf n) := ⟨fun h => by have := kk.1 h; omega, fun h => by have : ¬ clsOf n ≤ c := fun e => h (kk.2 e); omega⟩
    refine cond_dec (fun h4 => ?_) (fun h4 => ?_)
    · rw [key.1 h4] at h; exact h
    · rw [W]; exact ih (c + 1) (by omega) (by omega) (key.2 h4)
theorem ref06_Of_c {n : Int} {K : Value → World → Prop} {w : World} (h : K (.int .i64 (clsOf n)) w) : CallsE Pg ref06_Of.N #[.int .i64 n] w K := by
  refine ref06_Of.ok ?_
  refine cond_dec (fun h1 => ?_) (fun h1 => ?_)
  · have : clsOf n = -1 := by unfold clsOf; rw [if_pos h1]
    rw [this] at h; exact h
  refine cond_dec (fun h2 => ?_) (fun h2 => ?_)
  · have : clsOf n = -1 := by unfold clsOf; rw [if_neg h1, if_pos h2]
    rw [this] at h; exact h
  refine ⟨8, ref06_Of_loop (by omega) (by omega) h 7 0 (by omega) (by omega) ?_⟩
  unfold clsOf
  rw [if_neg h1, if_neg h2]
  repeat' split <;> omega
theorem ref06_Pages_c {n : Int} {K : Value → World → Prop} {w : World} (h : K (.int .i64 (clsPages n)) w) : CallsE Pg ref06_Pages.N #[.int .i64 n] w K := by
  refine ref06_Pages.ok (ref06_Of_c ⟨_, rfl, ?_⟩)
  unfold clsPages at h
  refine cond_dec (fun h1 => ?_) (fun h1 => ?_)
  · rw [if_pos h1] at h; exact h
  rw [if_neg h1] at h
  refine ref06_Of_c ⟨_, rfl, ?_⟩
  refine cond_dec (fun h2 => ?_) (fun h2 => ?_)
  · rw [if_pos h2] at h; exact h
  rw [if_neg h2] at h
  have hb := clsOf_big h1
  refine ⟨by decide, ?_⟩
  have e : IntKind.wrap .i64 (Int.tdiv (IntKind.wrap .i64 (n + (255 : Int))) 256) = (n + 255) / 256 := by
    rw [wrap64_in (x := n + 255) (by omega) (by omega), Int.tdiv_eq_ediv_of_nonneg (by omega), wrap64_in (by omega) (by omega)]
  rw [e]
  exact h
/-! ### spans: the program's -/
def pagesOf (cl size : Int) : Int := if cl = 7 then clsPages size else 1
def spSize (cl size : Int) : Int := if cl = 7 then size else clsSize cl
def slotsN (cl : Int) : Nat := (clsSlots cl).toNat
def newErr (pg cl size : Int) : Int := if cl < 0 ∨ 7 < cl then 11 else if (cl < 7 ∧ size ≠ 0) ∨ (cl = 7 ∧ clsOf size ≠ 7) then 2 else if pg < 0 ∨ 4096 - pagesOf cl size < pg then 10 else 0
theorem clsSlots_nat (cl : Int) : clsSlots cl = (slotsN cl : Int) ∧ slotsN cl ≤ 16 := by
  unfold slotsN clsSlots
  (repeat' split) <;> omega
theorem new_ok {pg cl size : Int} (h : newErr pg cl size = 0) : 0 ≤ cl ∧ cl ≤ 7 ∧ 0 ≤ pg ∧ 1 ≤ pagesOf cl size ∧ pagesOf cl size ≤ 16 ∧ pg + pagesOf cl size ≤ 4096 ∧ 1 ≤ spSize cl size ∧ spSize cl size ≤ 4096 ∧ 1 ≤ slotsN cl ∧ (slotsN cl : Int) * spSize cl size ≤ pagesOf cl size * 256 ∧ (cl = 7 → clsOf size = 7) ∧ (cl ≠ 7 → size = 0) := by
  unfold newErr at h
  by_cases h1 : cl < 0 ∨ 7 < cl
  · rw [if_pos h1] at h; cases h
  rw [if_neg h1] at h
  by_cases h2 : (cl < 7 ∧ size ≠ 0) ∨ (cl = 7 ∧ clsOf size ≠ 7)
  · rw [if_pos h2] at h; cases h
  rw [if_neg h2] at h
  by_cases h3 : pg < 0 ∨ 4096 - pagesOf cl size < pg
  · rw [if_pos h3] at h; cases h
  have hp : 1 ≤ pagesOf cl size ∧ pagesOf cl size ≤ 16 ∧ 1 ≤ spSize cl size ∧ spSize cl size ≤ 4096 ∧ 1 ≤ slotsN cl ∧ (slotsN cl : Int) * spSize cl size ≤ pagesOf cl size * 256 := by
    by_cases h7 : cl = 7
    · subst h7
      have hc : clsOf size = 7 := by
        by_cases hc : clsOf size = 7
        · exact hc
        · exact absurd (.inr ⟨rfl, hc⟩) h2
      have e1 : pagesOf 7 size = (size + 255) / 256 := by
        unfold pagesOf clsPages
        rw [if_pos rfl, hc, if_neg (by decide), if_neg (by decide)]
      have e2 : spSize 7 size = size := by unfold spSize; rw [if_pos rfl]
      have e3 : slotsN 7 = 1 := by decide
      have hb := clsOf_big (n := size) (by rw [hc]; decide)
      rw [e1, e2, e3]
      omega
    · have e1 : pagesOf cl size = 1 := by unfold pagesOf; rw [if_neg h7]
      have e2 : spSize cl size = clsSize cl := by unfold spSize; rw [if_neg h7]
      rw [e1, e2]
      have hcl : cl = 0 ∨ cl = 1 ∨ cl = 2 ∨ cl = 3 ∨ cl = 4 ∨ cl = 5 ∨ cl = 6 := by omega
      rcases hcl with rfl | rfl | rfl | rfl | rfl | rfl | rfl <;> decide
  refine ⟨by omega, by omega, by omega, hp.1, hp.2.1, by omega, hp.2.2.1, hp.2.2.2.1, hp.2.2.2.2.1, hp.2.2.2.2.2, fun h7 => ?_, fun h7 => ?_⟩
  · by_cases hc : clsOf size = 7
    · exact hc
    · exact absurd (.inr ⟨h7, hc⟩) h2
  · by_cases hc : size = 0
    · exact hc
    · exact absurd (.inl ⟨by omega, hc⟩) h2
def SpanV (w : World) (b : Nat) (p : Option Addr) (pg pgs cl sz : Int) (n : Nat) (S : Nat → Bool) (F : Nat → Prop) : Prop :=
  ∃ t q G, p = some ⟨t, 0, none⟩ ∧ b ≤ t ∧ Blk w t Ty.span_Span [.pointer q, .int .i64 pg, .int .i64 pgs, .int .i64 cl, .int .i64 sz] ∧ SetV w b q n S G ∧ ¬ G t ∧ F = fun i => i = t ∨ G i
theorem SpanV.kp {w w' : World} {b : Nat} {p : Option Addr} {pg pgs cl sz : Int} {n : Nat} {S : Nat → Bool} {F X : Nat → Prop} (h : SpanV w b p pg pgs cl sz n S F) (k : Kp X w w') (hd : ∀ i, F i → ¬ X i) : SpanV w' b p pg pgs cl sz n S F := by
  obtain ⟨t, q, G, rfl, h1, h2, h3, h4, rfl⟩ := h
  exact ⟨t, q, G, rfl, h1, h2.kp k (hd t (.inl rfl)), h3.kp k (fun i hi => hd i (.inr hi)), h4, rfl⟩
theorem SpanV.lt {w : World} {b : Nat} {p : Option Addr} {pg pgs cl sz : Int} {n : Nat} {S : Nat → Bool} {F : Nat → Prop} (h : SpanV w b p pg pgs cl sz n S F) {i : Nat} (hi : F i) : b ≤ i ∧ i < w.heap.size := by
  obtain ⟨t, q, G, rfl, h1, h2, h3, h4, rfl⟩ := h
  rcases hi with rfl | hi
  · exact ⟨h1, h2.lt⟩
  · exact h3.lt hi
theorem SpanV.below {w w' : World} {b : Nat} {p : Option Addr} {pg pgs cl sz : Int} {n : Nat} {S : Nat → Bool} {F : Nat → Prop} (h : SpanV w b p pg pgs cl sz n S F) (k : Below w.heap.size w w') : SpanV w' b p pg pgs cl sz n S F := h.kp (Kp.of_below k) (fun _ _ => id)
theorem SpanV.base {w : World} {b b' : Nat} {p : Option Addr} {pg pgs cl sz : Int} {n : Nat} {S : Nat → Bool} {F : Nat → Prop} (h : SpanV w b p pg pgs cl sz n S F) (hb : b' ≤ b) : SpanV w b' p pg pgs cl sz n S F := by
  obtain ⟨t, q, G, rfl, h1, h2, h3, h4, rfl⟩ := h
  exact ⟨t, q, G, rfl, by omega, h2, h3.base hb, h4, rfl⟩
theorem SpanV.under {w w' : World} {b b0 : Nat} {p : Option Addr} {pg pgs cl sz : Int} {n : Nat} {S : Nat → Bool} {F : Nat → Prop} (h : SpanV w b p pg pgs cl sz n S F) (hb : b0 ≤ b) (hw : b0 ≤ w.heap.size) (k : Kp F w w') : Below b0 w w' :=
  k.below hw fun i hi hs => by have := (h.lt hs).1; omega
theorem SpanV.there {w : World} {b : Nat} {p : Option Addr} {pg pgs cl sz : Int} {n : Nat} {S : Nat → Bool} {F : Nat → Prop} (h : SpanV w b p pg pgs cl sz n S F) : p.isNone = false := by obtain ⟨t, q, G, rfl, _⟩ := h; rfl
theorem clampN_nat {n : Nat} (h : n ≤ 65536) : clampN (n : Int) = n := by have := (clampN_eq (n : Int)).1; unfold imax imin at this; (repeat' split at this) <;> omega
theorem span_New_c {pg cl size : Int} {K : Value → World → Prop} {w : World} (hpg : I64 pg) (hcl : I64 cl) (hsize : I64 size)
    (hE : ∀ w', newErr pg cl size ≠ 0 → Below w.heap.size w w' → K (.tuple #[.pointer none, .int .i64 (newErr pg cl size)]) w')
    (hK : ∀ w' p F, newErr pg cl size = 0 → SpanV w' w.heap.size p pg (pagesOf cl size) cl (spSize cl size) (slotsN cl) noneS F → Below w.heap.size w w' → K (.tuple #[.pointer p, .int .i64 0]) w') : CallsE Pg span_New.N #[.int .i64 pg, .int .i64 cl, .int .i64 size] w K := by
  refine span_New.ok (class_Size_c ⟨_, rfl, wlet_intro fun w1 h1 => ?_⟩)
  have b1 : Below w.heap.size w w1 := by rw [h1]; exact (Below.refl _ _).alloc (Nat.le_refl _) _
  have hB1 : Blk w1 w.heap.size Ty.span_Span [.pointer none, .int .i64 pg, .int .i64 1, .int .i64 cl, .int .i64 (clsSize cl)] := by rw [h1]; exact Blk.new w _ _
  clear h1
  have e11 : (cl < 0 ∨ 7 < cl) → K (.tuple #[.pointer none, .int .i64 11]) w1 := fun h => by
    have e : newErr pg cl size = 11 := by unfold newErr; rw [if_pos h]
    rw [e] at hE
    exact hE w1 (by decide) b1
  refine cond_dec (fun h => e11 (.inl h)) (fun h0 => ?_)
  show condP (decide (7 < cl)) _ _
  refine cond_dec (fun h => e11 (.inr h)) (fun h7 => ?_)
  have e2 : ((cl < 7 ∧ size ≠ 0) ∨ (cl = 7 ∧ clsOf size ≠ 7)) → newErr pg cl size = 2 := fun h => by unfold newErr; rw [if_neg (by omega), if_pos h]
  /- behind the sizes -/
  have rest : ∀ w2, ¬ ((cl < 7 ∧ size ≠ 0) ∨ (cl = 7 ∧ clsOf size ≠ 7)) → Below w.heap.size w w2 → Blk w2 w.heap.size Ty.span_Span [.pointer none, .int .i64 pg, .int .i64 (pagesOf cl size), .int .i64 cl, .int .i64 (spSize cl size)] → span_New.p4 K pg cl ⟨w.heap.size, 0, none⟩ w2 := fun w2 hn b2 hB2 => by
    have hpr : 0 ≤ pagesOf cl size ∧ pagesOf cl size ≤ 16 := by
      unfold pagesOf
      split
      · exact clsPages_range size
      · omega
    have e10 : (pg < 0 ∨ 4096 - pagesOf cl size < pg) → K (.tuple #[.pointer none, .int .i64 10]) w2 := fun h => by
      have e : newErr pg cl size = 10 := by unfold newErr; rw [if_neg (by omega), if_neg hn, if_pos h]
      rw [e] at hE
      exact hE w2 (by decide) b2
    refine cond_dec (fun h => e10 (.inl h)) (fun hp0 => ?_)
    refine ⟨_, rfl, _, by rw [add_at]; exact hB2.cell' (j := 2) rfl, ?_⟩
    rw [wrap64_in (by omega) (by omega)]
    refine cond_dec (fun h => e10 (.inr h)) (fun hp1 => ?_)
    have e0 : newErr pg cl size = 0 := by unfold newErr; rw [if_neg (by omega), if_neg hn, if_neg (by omega)]
    obtain ⟨hs1, hs2⟩ := clsSlots_nat cl
    refine class_Slots_c ⟨_, rfl, set_New_c fun w3 q G hs b3 => ⟨_, rfl, _, rfl, ?_⟩⟩
    rw [hs1, clampN_nat (by omega)] at hs
    have hB3 := hB2.kp (Kp.of_below b3) id
    have hlt := hB2.lt
    have b3' := b2.trans (b3.mono b2.size)
    have := blk_set1 (k := 0) (v := .pointer q) (Q := fun w22 => K (.tuple #[.pointer (some ⟨w.heap.size, 0, none⟩), .int .i64 0]) w22) hB3 (by simp) fun w4 hB4 k4 _ =>
      hK w4 _ _ e0 ⟨w.heap.size, q, G, rfl, Nat.le_refl _, hB4, (hs.kp k4 (fun i hi e => by have := (hs.lt hi).1; omega)).base (by have := b2.size; omega), fun hG => by have := (hs.lt hG).1; omega, rfl⟩
        (b3'.trans (k4.below b3'.size fun i hi e => by omega))
    rw [add_at] at this
    exact this
  have not7 : cl < 7 → size = 0 → span_New.p3 K pg cl size ⟨w.heap.size, 0, none⟩ false w1 := fun hc hs => by
    refine cond_eq (fun h => absurd h (by omega)) (fun _ => ?_)
    have hn7 : cl ≠ 7 := by omega
    refine rest w1 (by omega) b1 ?_
    have e1 : pagesOf cl size = 1 := by unfold pagesOf; rw [if_neg hn7]
    have e2 : spSize cl size = clsSize cl := by unfold spSize; rw [if_neg hn7]
    rw [e1, e2]; exact hB1
  refine cond_dec (fun hlt => ?_) (fun hge => ?_)
  · by_cases hs : size = 0
    · rw [hs]
      rw [hs] at not7
      exact not7 hlt rfl
    · have e : (size != 0) = true := by simpa using hs
      rw [e]
      have e2' := e2 (.inl ⟨hlt, hs⟩)
      rw [e2'] at hE
      exact hE w1 (by decide) b1
  · obtain rfl : cl = 7 := by omega
    refine condP_f (condP_t ?_)
    refine class_Of_c ⟨_, rfl, cond_ne (fun hc => ?_) (fun hc => ?_)⟩
    · have e2' := e2 (.inr ⟨rfl, hc⟩)
      rw [e2'] at hE
      exact hE w1 (by decide) b1
    · refine class_Pages_c ⟨_, rfl, _, rfl, ?_⟩
      refine blk_set1 (k := 2) hB1 (by simp) fun w2 hB2 k2 _ => ?_
      refine ⟨_, rfl, ?_⟩
      refine blk_set1 (k := 4) hB2 (by simp) fun w3 hB3 k3 _ => ?_
      have hlt := hB1.lt
      refine rest w3 (by omega) ((b1.trans (k2.below b1.size fun i hi e => by omega)).trans (k3.below (by have := b1.size; have := k2.size; omega) fun i hi e => by omega)) ?_
      have e1 : pagesOf 7 size = clsPages size := by unfold pagesOf; rw [if_pos rfl]
      have e2 : spSize 7 size = size := by unfold spSize; rw [if_pos rfl]
      rw [e1, e2]; exact hB3
section
variable {w : World} {b : Nat} {p : Option Addr} {pg pgs cl sz : Int} {n : Nat} {S : Nat → Bool} {F : Nat → Prop} {K : Value → World → Prop}
theorem taken_alloc {q : Option Addr} {Q : World → Prop} (hQ : ∀ w', Blk w' w.heap.size Ty.span_taken [.pointer q] → Below w.heap.size w w' → Q w') : wlet (w.alloc (.cells #[.pointer q] Ty.span_taken)) Q := by
  refine wlet_intro fun w1 h1 => hQ w1 ?_ ?_
  · rw [h1]; exact Blk.new w _ _
  · rw [h1]; exact (Below.refl _ _).alloc (Nat.le_refl _) _
theorem span_Span_Slots_c (h : SpanV w b p pg pgs cl sz n S F) (hK : ∀ w', Below w.heap.size w w' → K (.int .i64 n) w') : CallsE Pg span_Span_Slots.N #[.pointer p] w K := by
  obtain ⟨t, q, G, rfl, h1, h2, h3, h4, rfl⟩ := h
  refine span_Span_Slots.ok (condP_f ⟨_, rfl, _, h2.cell' (j := 0) rfl, ?_⟩)
  refine span_taken_Slots.ok (taken_alloc fun w1 hB b1 => ⟨_, hB.cell' (j := 0) rfl, set_Set_Len_c (h3.below b1) ⟨_, rfl, ⟨_, rfl, hK w1 b1⟩⟩⟩)
theorem span_Span_Live_c (h : SpanV w b p pg pgs cl sz n S F) (hS : Within S n) (hK : ∀ w', Below w.heap.size w w' → K (.int .i64 ((cnt S 0 n : Nat) : Int)) w') : CallsE Pg span_Span_Live.N #[.pointer p] w K := by
  obtain ⟨t, q, G, rfl, h1, h2, h3, h4, rfl⟩ := h
  refine span_Span_Live.ok (condP_f ⟨_, rfl, _, h2.cell' (j := 0) rfl, ?_⟩)
  refine span_taken_Live.ok (taken_alloc fun w1 hB b1 => ⟨_, hB.cell' (j := 0) rfl, set_Set_Count_c (h3.below b1) hS ⟨_, rfl, ⟨_, rfl, hK w1 b1⟩⟩⟩)
theorem span_Span_Has_c {i : Int} (h : SpanV w b p pg pgs cl sz n S F) (hS : Within S n) (hK : ∀ w', Below w.heap.size w w' → K (.bool (hasV S i)) w') : CallsE Pg span_Span_Has.N #[.pointer p, .int .i64 i] w K := by
  obtain ⟨t, q, G, rfl, h1, h2, h3, h4, rfl⟩ := h
  refine span_Span_Has.ok (condP_t ⟨_, rfl, _, h2.cell' (j := 0) rfl, ?_⟩)
  refine span_taken_Has.ok (taken_alloc fun w1 hB b1 => ⟨_, hB.cell' (j := 0) rfl, set_Set_Has_c (h3.below b1) hS ⟨_, rfl, ⟨_, rfl, hK w1 b1⟩⟩⟩)
theorem span_Span_Size_c (h : SpanV w b p pg pgs cl sz n S F) (hK : K (.int .i64 sz) w) : CallsE Pg span_Span_Size.N #[.pointer p] w K := by
  obtain ⟨t, q, G, rfl, h1, h2, h3, h4, rfl⟩ := h
  exact span_Span_Size.ok (condP_f ⟨_, rfl, _, h2.cell' (j := 4) rfl, hK⟩)
theorem span_Span_Pages_c (h : SpanV w b p pg pgs cl sz n S F) (hK : K (.int .i64 pgs) w) : CallsE Pg span_Span_Pages.N #[.pointer p] w K := by
  obtain ⟨t, q, G, rfl, h1, h2, h3, h4, rfl⟩ := h
  exact span_Span_Pages.ok (condP_f ⟨_, rfl, _, h2.cell' (j := 2) rfl, hK⟩)
theorem span_Span_Page_c (h : SpanV w b p pg pgs cl sz n S F) (hK : K (.int .i64 pg) w) : CallsE Pg span_Span_Page.N #[.pointer p] w K := by
  obtain ⟨t, q, G, rfl, h1, h2, h3, h4, rfl⟩ := h
  exact span_Span_Page.ok (condP_f ⟨_, rfl, _, h2.cell' (j := 1) rfl, hK⟩)
theorem span_Span_Class_c (h : SpanV w b p pg pgs cl sz n S F) (hK : K (.int .i64 cl) w) : CallsE Pg span_Span_Class.N #[.pointer p] w K := by
  obtain ⟨t, q, G, rfl, h1, h2, h3, h4, rfl⟩ := h
  exact span_Span_Class.ok (condP_f ⟨_, rfl, _, h2.cell' (j := 3) rfl, hK⟩)
def atV (pg sz : Int) (n : Nat) (i : Int) : Int × Bool := if i < 0 ∨ n ≤ i then (0, false) else (pg * 256 + i * sz, true)
def slotV (pg sz : Int) (n : Nat) (at' : Int) : Int × Bool := if at' < pg * 256 then (0, false) else if (at' - pg * 256) % sz ≠ 0 ∨ n ≤ (at' - pg * 256) / sz then (0, false) else ((at' - pg * 256) / sz, true)
theorem span_Span_At_c {i : Int} (h : SpanV w b p pg pgs cl sz n S F) (hpg : 0 ≤ pg ∧ pg ≤ 4096) (hsz : 1 ≤ sz ∧ sz ≤ 4096) (hK : ∀ w', Below w.heap.size w w' → K (.tuple #[.int .i64 (atV pg sz n i).1, .bool (atV pg sz n i).2]) w') : CallsE Pg span_Span_At.N #[.pointer p, .int .i64 i] w K := by
  have hn : n ≤ 65536 := by obtain ⟨t, q, G, rfl, h1, h2, h3, h4, rfl⟩ := h; exact h3.size
  have no : (i < 0 ∨ n ≤ i) → ∀ w', Below w.heap.size w w' → K (.tuple #[.int .i64 0, .bool false]) w' := fun hi w' hb => by
    unfold atV at hK
    rw [if_pos hi] at hK
    exact hK w' hb
  refine span_Span_At.ok (cond_dec (fun hi => no (.inl hi) w (Below.refl _ _)) (fun hi => ?_))
  refine span_Span_Slots_c h fun w1 b1 => ⟨_, rfl, ?_⟩
  refine cond_dec (fun hi2 => no (.inr hi2) w1 b1) (fun hi2 => ?_)
  have h' := h.below b1
  obtain ⟨t, q, G, rfl, h1, h2, h3, h4, rfl⟩ := h'
  unfold atV at hK
  rw [if_neg (by omega)] at hK
  refine ⟨_, rfl, _, h2.cell' (j := 1) rfl, _, rfl, _, h2.cell' (j := 4) rfl, ?_⟩
  have hm : 0 ≤ i * sz ∧ i * sz ≤ 65536 * 4096 := ⟨Int.mul_nonneg (by omega) (by omega), Int.mul_le_mul (by omega) (by omega) (by omega) (by omega)⟩
  rw [wrap64_in (x := pg * 256) (by omega) (by omega), wrap64_in (x := i * sz) (by omega) (by omega), wrap64_in (by omega) (by omega)]
  exact hK w1 b1
/-- The least free slot, or -1. -/
def freeV (S : Nat → Bool) (n : Nat) : Int := nxt S false 0 n
def takeS (S : Nat → Bool) (n : Nat) : Nat → Bool := if freeV S n < 0 then S else upd S (freeV S n).toNat true
theorem nxt_range {S : Nat → Bool} {want : Bool} : ∀ (k b : Nat), nxt S want b k = -1 ∨ ∃ j : Nat, nxt S want b k = j ∧ b ≤ j ∧ j < b + k ∧ S j = want
  | 0, _ => .inl rfl
  | k + 1, b => by
    rw [nxt]
    by_cases hs : S b = want
    · rw [if_pos hs]
      exact .inr ⟨b, rfl, Nat.le_refl _, by omega, hs⟩
    · rw [if_neg hs]
      rcases nxt_range (S := S) (want := want) k (b + 1) with h | ⟨j, h1, h2, h3, h4⟩
      · exact .inl h
      · exact .inr ⟨j, h1, by omega, by omega, h4⟩
theorem takeS_within (hS : Within S n) : Within (takeS S n) n := by
  unfold takeS freeV
  rcases nxt_range (S := S) (want := false) n 0 with h | ⟨j, h1, h2, h3, h4⟩
  · rw [h, if_pos (by decide)]; exact hS
  · rw [h1, if_neg (by omega), Int.toNat_natCast]
    intro i hi
    rw [upd_ne (by omega)]
    exact hS i hi
def takeV (S : Nat → Bool) (n : Nat) : Int × Bool := if freeV S n < 0 then (0, false) else (freeV S n, true)
theorem span_Span_Take_c (h : SpanV w b p pg pgs cl sz n S F) (hS : Within S n) (hT : Tab w) (hK : ∀ w', SpanV w' b p pg pgs cl sz n (takeS S n) F → Kp F w w' → K (.tuple #[.int .i64 (takeV S n).1, .bool (takeV S n).2]) w') : CallsE Pg span_Span_Take.N #[.pointer p] w K := by
  have h0 := h
  obtain ⟨t, q, G, rfl, h1, h2, h3, h4, rfl⟩ := h
  refine span_Span_Take.ok (condP_f ⟨_, rfl, _, h2.cell' (j := 0) rfl, set_Set_Gap_c h3 hT ⟨by decide, by decide⟩ ⟨_, rfl, ?_⟩⟩)
  have e : nextV S n false 0 = freeV S n := rfl
  rw [e]
  have hfr : freeV S n = nxt S false 0 n := rfl
  unfold takeV takeS at hK
  refine cond_dec (fun hl => ?_) (fun hl => ?_)
  · rw [if_pos hl, if_pos hl] at hK
    exact hK w h0 (Kp.refl _ _)
  · rw [if_neg hl, if_neg hl] at hK
    rcases nxt_range (S := S) (want := false) n 0 with hn | ⟨j, j1, j2, j3, j4⟩
    · rw [hfr, hn] at hl; exact absurd (by decide) hl
    rw [hfr, j1] at hK ⊢
    rw [Int.toNat_natCast] at hK
    have hsz := h3.size
    have hc : canPut S n (j : Int) true = true := by unfold canPut; rw [Int.toNat_natCast, j4, decide_eq_true (by omega), decide_eq_true (by omega)]; rfl
    refine ⟨_, rfl, _, h2.cell' (j := 0) rfl, set_Set_Add_c h3 hS ⟨by omega, by omega⟩ fun w1 h5 k5 => ⟨_, rfl, ?_⟩⟩
    rw [hc]
    have es : putS S n (j : Int) true = upd S j true := by unfold putS; rw [if_pos hc, Int.toNat_natCast]
    rw [es] at h5
    exact hK w1 ⟨t, q, G, rfl, h1, h2.kp k5 h4, h5, h4, rfl⟩ (k5.mono fun i _ hi => .inr hi)
theorem span_Span_Give_c {i : Int} (h : SpanV w b p pg pgs cl sz n S F) (hS : Within S n) (hi : I64 i) (hK : ∀ w', SpanV w' b p pg pgs cl sz n (putS S n i false) F → Kp F w w' → K (.bool (canPut S n i false)) w') : CallsE Pg span_Span_Give.N #[.pointer p, .int .i64 i] w K := by
  obtain ⟨t, q, G, rfl, h1, h2, h3, h4, rfl⟩ := h
  refine span_Span_Give.ok (condP_t ⟨_, rfl, _, h2.cell' (j := 0) rfl, set_Set_Del_c h3 hS hi fun w1 h5 k5 => ⟨_, rfl, ?_⟩⟩)
  exact hK w1 ⟨t, q, G, rfl, h1, h2.kp k5 h4, h5, h4, rfl⟩ (k5.mono fun i _ hi => .inr hi)
end

end Go.Proofs.YtklmaeefnmcmlaaDoor.C
