/-
  Parts of the proofs of this seat: what the functions compute. No condition beyond what each theorem states.
-/
import Derived.Test.YtogmnhdadggnbaaDoorF
import Derived.Test.YtogmnhdadggnbaaDoorRK
import Derived.Test.YtogmnhdadggnbaaDoorA
import Derived.Test.YtogmnhdadggnbaaDoorB
import Derived.Test.YtogmnhdadggnbaaDoorC
set_option linter.unusedVariables false
set_option linter.unusedSimpArgs false
set_option maxRecDepth 100000
namespace Go.Proofs.YtogmnhdadggnbaaDoor.C
open Go Go.RowKit Go.Proofs.YtogmnhdadggnbaaDoor Go.Proofs.YtogmnhdadggnbaaDoor.Sh Go.Proofs.YtogmnhdadggnbaaDoor.F Go.Proofs.YtogmnhdadggnbaaDoor.R

/-! ### class, and its document: what they compute -/
def clsOf (n : Int) : Int := if n < 1 then -1 else if 4096 < n then -1 else if n ≤ 16 then 0 else if n ≤ 24 then 1 else if n ≤ 32 then 2 else if n ≤ 48 then 3 else if n ≤ 64 then 4 else if n ≤ 96 then 5 else if n ≤ 128 then 6 else 7
def clsSize (c : Int) : Int := if c = 0 then 16 else if c = 1 then 24 else if c = 2 then 32 else if c = 3 then 48 else if c = 4 then 64 else if c = 5 then 96 else if c = 6 then 128 else 0
def clsSlots (c : Int) : Int := if c = 7 then 1 else if c = 0 then 16 else if c = 1 then 10 else if c = 2 then 8 else if c = 3 then 5 else if c = 4 then 4 else if c = 5 then 2 else if c = 6 then 2 else 0
def clsPages (n : Int) : Int := if clsOf n < 0 then 0 else if clsOf n < 7 then 1 else (n + 255) / 256

theorem clsOf_range (n : Int) : -1 ≤ clsOf n ∧ clsOf n ≤ 7 := by unfold clsOf; repeat' split <;> omega
theorem clsPages_range (n : Int) : 0 ≤ clsPages n ∧ clsPages n ≤ 16 := by
  unfold clsPages
  split
  · omega
  · split
    · omega
    · have : n ≤ 4096 ∧ 1 ≤ n := by
        rename_i h1 h2
        unfold clsOf at h1
        by_cases a : n < 1
        · rw [if_pos a] at h1; omega
        · rw [if_neg a] at h1
          by_cases b : 4096 < n
          · rw [if_pos b] at h1; omega
          · omega
      omega

theorem class_Of_c {n : Int} {K : Value → World → Prop} {w : World} (h : K (.int .i64 (clsOf n)) w) : CallsE Pg class_Of.N #[.int .i64 n] w K := by
  refine class_Of.ok ?_
  unfold clsOf at h
  have W : ∀ x : Int, 0 ≤ x → x ≤ 7 → IntKind.wrap .i64 (x - 1) = x - 1 := fun x a b => wrap64_in (by omega) (by omega)
  refine cond_dec (fun h1 => ?_) (fun h1 => ?_)
  · rw [if_pos h1] at h; exact h
  rw [if_neg h1] at h
  refine cond_dec (fun h2 => ?_) (fun h2 => ?_)
  · rw [if_pos h2] at h; exact h
  rw [if_neg h2] at h
  refine cond_dec (fun h3 => ?_) (fun h3 => ?_)
  · rw [if_pos h3] at h; exact h
  rw [if_neg h3] at h
  refine cond_dec (fun h3 => ?_) (fun h3 => ?_)
  · rw [if_pos h3] at h; exact h
  rw [if_neg h3] at h
  refine cond_dec (fun h3 => ?_) (fun h3 => ?_)
  · rw [if_pos h3] at h; exact h
  rw [if_neg h3] at h
  refine cond_dec (fun h3 => ?_) (fun h3 => ?_)
  · rw [if_pos h3] at h; exact h
  rw [if_neg h3] at h
  refine cond_dec (fun h3 => ?_) (fun h3 => ?_)
  · rw [if_pos h3] at h; exact h
  rw [if_neg h3] at h
  refine cond_dec (fun h3 => ?_) (fun h3 => ?_)
  · rw [if_pos h3] at h; exact h
  rw [if_neg h3] at h
  refine cond_dec (fun h3 => ?_) (fun h3 => ?_)
  · rw [if_pos h3] at h; exact h
  rw [if_neg h3] at h
  exact h

theorem class_Size_c {c : Int} {K : Value → World → Prop} {w : World} (h : K (.int .i64 (clsSize c)) w) : CallsE Pg class_Size.N #[.int .i64 c] w K := by
  refine class_Size.ok ?_
  refine cond_dec (fun h1 => ?_) (fun h1 => ?_)
  · have : clsSize c = 0 := by unfold clsSize; repeat' rw [if_neg (by omega)]
    rw [this] at h; exact h
  refine cond_dec (fun h2 => ?_) (fun h2 => ?_)
  · have : clsSize c = 0 := by unfold clsSize; repeat' rw [if_neg (by omega)]
    rw [this] at h; exact h
  have hc : c = 0 ∨ c = 1 ∨ c = 2 ∨ c = 3 ∨ c = 4 ∨ c = 5 ∨ c = 6 := by omega
  rcases hc with rfl | rfl | rfl | rfl | rfl | rfl | rfl <;>
    exact ⟨by decide, by decide, by decide, by first | exact ⟨by decide, h⟩ | exact h⟩

theorem ref06_Size_c {c : Int} {K : Value → World → Prop} {w : World} (h : K (.int .i64 (clsSize c)) w) : CallsE Pg ref06_Size.N #[.int .i64 c] w K := by
  refine ref06_Size.ok ?_
  refine cond_dec (fun h1 => ?_) (fun h1 => ?_)
  · have : clsSize c = 0 := by unfold clsSize; repeat' rw [if_neg (by omega)]
    rw [this] at h; exact h
  refine cond_dec (fun h2 => ?_) (fun h2 => ?_)
  · have : clsSize c = 0 := by unfold clsSize; repeat' rw [if_neg (by omega)]
    rw [this] at h; exact h
  have hc : c = 0 ∨ c = 1 ∨ c = 2 ∨ c = 3 ∨ c = 4 ∨ c = 5 ∨ c = 6 := by omega
  rcases hc with rfl | rfl | rfl | rfl | rfl | rfl | rfl <;> exact ⟨by decide, _, rfl, h⟩

theorem class_Slots_c {c : Int} {K : Value → World → Prop} {w : World} (h : K (.int .i64 (clsSlots c)) w) : CallsE Pg class_Slots.N #[.int .i64 c] w K := by
  refine class_Slots.ok ?_
  refine cond_eq (fun h1 => ?_) (fun h1 => ?_)
  · subst h1; exact h
  refine class_Size_c ⟨_, rfl, ?_⟩
  by_cases hc : c = 0 ∨ c = 1 ∨ c = 2 ∨ c = 3 ∨ c = 4 ∨ c = 5 ∨ c = 6
  · rcases hc with rfl | rfl | rfl | rfl | rfl | rfl | rfl <;> exact ⟨by decide, h⟩
  · have e1 : clsSize c = 0 := by unfold clsSize; repeat' rw [if_neg (by omega)]
    have e2 : clsSlots c = 0 := by unfold clsSlots; repeat' rw [if_neg (by omega)]
    rw [e1]
    rw [e2] at h
    exact h
theorem ref06_Slots_c {c : Int} {K : Value → World → Prop} {w : World} (h : K (.int .i64 (clsSlots c)) w) : CallsE Pg ref06_Slots.N #[.int .i64 c] w K := by
  refine ref06_Slots.ok ?_
  refine cond_eq (fun h1 => ?_) (fun h1 => ?_)
  · subst h1; exact h
  refine ref06_Size_c ⟨_, rfl, ?_⟩
  by_cases hc : c = 0 ∨ c = 1 ∨ c = 2 ∨ c = 3 ∨ c = 4 ∨ c = 5 ∨ c = 6
  · refine cond_eq (fun h2 => ?_) (fun h2 => ?_)
    · exact absurd h2 (by rcases hc with rfl | rfl | rfl | rfl | rfl | rfl | rfl <;> decide)
    refine ref06_Size_c ⟨_, rfl, h2, ?_⟩
    rcases hc with rfl | rfl | rfl | rfl | rfl | rfl | rfl <;> exact h
  · have e1 : clsSize c = 0 := by unfold clsSize; repeat' rw [if_neg (by omega)]
    have e2 : clsSlots c = 0 := by unfold clsSlots; repeat' rw [if_neg (by omega)]
    rw [e1]
    rw [e2] at h
    exact h
theorem clsOf_big {n : Int} (h : ¬ clsOf n < 0) : 1 ≤ n ∧ n ≤ 4096 := by
  unfold clsOf at h
  by_cases a : n < 1
  · rw [if_pos a] at h; omega
  · rw [if_neg a] at h
    by_cases b : 4096 < n
    · rw [if_pos b] at h; omega
    · omega
theorem class_Pages_c {n : Int} {K : Value → World → Prop} {w : World} (h : K (.int .i64 (clsPages n)) w) : CallsE Pg class_Pages.N #[.int .i64 n] w K := by
  refine class_Pages.ok (class_Of_c ⟨_, rfl, ?_⟩)
  unfold clsPages at h
  refine cond_dec (fun h1 => ?_) (fun h1 => ?_)
  · rw [if_pos h1] at h; exact h
  rw [if_neg h1] at h
  refine cond_dec (fun h2 => ?_) (fun h2 => ?_)
  · rw [if_pos h2] at h; exact h
  rw [if_neg h2] at h
  have hb := clsOf_big h1
  refine ⟨by decide, ?_⟩
  have e : IntKind.wrap .i64 (Int.tdiv (IntKind.wrap .i64 ((IntKind.wrap .i64 (n + (256 : Int))) - (1 : Int))) 256) = (n + 255) / 256 := by
    rw [wrap64_in (x := n + 256) (by omega) (by omega), wrap64_in (x := n + 256 - 1) (by omega) (by omega), Int.tdiv_eq_ediv_of_nonneg (by omega), wrap64_in (by omega) (by omega)]
    congr 1
    omega
  rw [e]
  exact h
theorem clsOf_le {n c : Int} (h1 : 1 ≤ n) (h2 : n ≤ 4096) (h3 : 0 ≤ c) (h4 : c ≤ 6) : n ≤ clsSize c ↔ clsOf n ≤ c := by
  have hcc : c = 0 ∨ c = 1 ∨ c = 2 ∨ c = 3 ∨ c = 4 ∨ c = 5 ∨ c = 6 := by omega
  have n1 : ¬ n < 1 := by omega
  have n2 : ¬ 4096 < n := by omega
  unfold clsOf
  rw [if_neg n1, if_neg n2]
  rcases hcc with rfl | rfl | rfl | rfl | rfl | rfl | rfl
  · show n ≤ 16 ↔ _
    repeat' split <;> omega
  · show n ≤ 24 ↔ _
    repeat' split <;> omega
  · show n ≤ 32 ↔ _
    repeat' split <;> omega
  · show n ≤ 48 ↔ _
    repeat' split <;> omega
  · show n ≤ 64 ↔ _
    repeat' split <;> omega
  · show n ≤ 96 ↔ _
    repeat' split <;> omega
  · show n ≤ 128 ↔ _
    repeat' split <;> omega
/-- The document's loop over the classes. -/
theorem ref06_Of_loop {n : Int} (h1 : 1 ≤ n) (h2 : n ≤ 4096) {K : Value → World → Prop} {w : World} (h : K (.int .i64 (clsOf n)) w) : ∀ (d : Nat) (c : Int), 0 ≤ c → c + d = 7 → c ≤ clsOf n → ref06_Of.l0 K (d + 1) n c w := by
  intro d
  induction d with
  | zero =>
    intro c h0 h7 hc
    rw [ref06_Of.l0_succ]
    refine cond_dec (fun h3 => by omega) (fun h3 => ?_)
    have : clsOf n = 7 := by have := clsOf_range n; omega
    rw [this] at h
    exact h
  | succ d ih =>
    intro c h0 h7 hc
    rw [ref06_Of.l0_succ]
    refine cond_dec (fun h3 => ?_) (fun h3 => by omega)
    refine ref06_Size_c ⟨_, rfl, ?_⟩
    have W : IntKind.wrap .i64 (c + 1) = c + 1 := wrap64_in (by omega) (by omega)
    have kk := clsOf_le h1 h2 h0 (show c ≤ 6 by omega)
    have key : (n ≤ clsSize c → clsOf n = c) ∧ (¬ n ≤ clsSize c → c + 1 ≤ clsOf n) := ⟨fun h => by have := kk.1 h; omega, fun h => by have : ¬ clsOf n ≤ c := fun e => h (kk.2 e); omega⟩
    refine cond_dec (fun h4 => ?_) (fun h4 => ?_)
    · rw [key.1 h4] at h; exact h
    · rw [W]; exact ih (c + 1) (by omega) (by omega) (key.2 h4)
theorem ref06_Of_c {n : Int} {K : Value → World → Prop} {w : World} (h : K (.int .i64 (clsOf n)) w) : CallsE Pg ref06_Of.N #[.int .i64 n] w K := by
  refine ref06_Of.ok ?_
  refine cond_dec (fun h1 => ?_) (fun h1 => ?_)
  · have : clsOf n = -1 := by unfold clsOf; rw [if_pos h1]
    rw [this] at h; exact h
  refine cond_dec (fun h2 => ?_) (fun h2 => ?_)
  · have : clsOf n = -1 := by unfold clsOf; rw [if_neg h1, if_pos h2]
    rw [this] at h; exact h
  refine ⟨8, ref06_Of_loop (by omega) (by omega) h 7 0 (by omega) (by omega) ?_⟩
  unfold clsOf
  rw [if_neg h1, if_neg h2]
  repeat' split <;> omega
theorem ref06_Pages_c {n : Int} {K : Value → World → Prop} {w : World} (h : K (.int .i64 (clsPages n)) w) : CallsE Pg ref06_Pages.N #[.int .i64 n] w K := by
  refine ref06_Pages.ok (ref06_Of_c ⟨_, rfl, ?_⟩)
  unfold clsPages at h
  refine cond_dec (fun h1 => ?_) (fun h1 => ?_)
  · rw [if_pos h1] at h; exact h
  rw [if_neg h1] at h
  refine ref06_Of_c ⟨_, rfl, ?_⟩
  refine cond_dec (fun h2 => ?_) (fun h2 => ?_)
  · rw [if_pos h2] at h; exact h
  rw [if_neg h2] at h
  have hb := clsOf_big h1
  refine ⟨by decide, ?_⟩
  have e : IntKind.wrap .i64 (Int.tdiv (IntKind.wrap .i64 (n + (255 : Int))) 256) = (n + 255) / 256 := by
    rw [wrap64_in (x := n + 255) (by omega) (by omega), Int.tdiv_eq_ediv_of_nonneg (by omega), wrap64_in (by omega) (by omega)]
  rw [e]
  exact h
/-! ### spans: the program's -/
def pagesOf (cl size : Int) : Int := if cl = 7 then clsPages size else 1
def spSize (cl size : Int) : Int := if cl = 7 then size else clsSize cl
def slotsN (cl : Int) : Nat := (clsSlots cl).toNat
def newErr (pg cl size : Int) : Int := if cl < 0 ∨ 7 < cl then 11 else if (cl < 7 ∧ size ≠ 0) ∨ (cl = 7 ∧ clsOf size ≠ 7) then 2 else if pg < 0 ∨ 4096 - pagesOf cl size < pg then 10 else 0
theorem clsSlots_nat (cl : Int) : clsSlots cl = (slotsN cl : Int) ∧ slotsN cl ≤ 16 := by
  unfold slotsN clsSlots
  (repeat' split) <;> omega
theorem new_ok {pg cl size : Int} (h : newErr pg cl size = 0) : 0 ≤ cl ∧ cl ≤ 7 ∧ 0 ≤ pg ∧ 1 ≤ pagesOf cl size ∧ pagesOf cl size ≤ 16 ∧ pg + pagesOf cl size ≤ 4096 ∧ 1 ≤ spSize cl size ∧ spSize cl size ≤ 4096 ∧ 1 ≤ slotsN cl ∧ (slotsN cl : Int) * spSize cl size ≤ pagesOf cl size * 256 ∧ (cl = 7 → clsOf size = 7) ∧ (cl ≠ 7 → size = 0) := by
  unfold newErr at h
  by_cases h1 : cl < 0 ∨ 7 < cl
  · rw [if_pos h1] at h; cases h
  rw [if_neg h1] at h
  by_cases h2 : (cl < 7 ∧ size ≠ 0) ∨ (cl = 7 ∧ clsOf size ≠ 7)
  · rw [if_pos h2] at h; cases h
  rw [if_neg h2] at h
  by_cases h3 : pg < 0 ∨ 4096 - pagesOf cl size < pg
  · rw [if_pos h3] at h; cases h
  have hp : 1 ≤ pagesOf cl size ∧ pagesOf cl size ≤ 16 ∧ 1 ≤ spSize cl size ∧ spSize cl size ≤ 4096 ∧ 1 ≤ slotsN cl ∧ (slotsN cl : Int) * spSize cl size ≤ pagesOf cl size * 256 := by
    by_cases h7 : cl = 7
    · subst h7
      have hc : clsOf size = 7 := by
        by_cases hc : clsOf size = 7
        · exact hc
        · exact absurd (.inr ⟨rfl, hc⟩) h2
      have e1 : pagesOf 7 size = (size + 255) / 256 := by
        unfold pagesOf clsPages
        rw [if_pos rfl, hc, if_neg (by decide), if_neg (by decide)]
      have e2 : spSize 7 size = size := by unfold spSize; rw [if_pos rfl]
      have e3 : slotsN 7 = 1 := by decide
      have hb := clsOf_big (n := size) (by rw [hc]; decide)
      rw [e1, e2, e3]
      omega
    · have e1 : pagesOf cl size = 1 := by unfold pagesOf; rw [if_neg h7]
      have e2 : spSize cl size = clsSize cl := by unfold spSize; rw [if_neg h7]
      rw [e1, e2]
      have hcl : cl = 0 ∨ cl = 1 ∨ cl = 2 ∨ cl = 3 ∨ cl = 4 ∨ cl = 5 ∨ cl = 6 := by omega
      rcases hcl with rfl | rfl | rfl | rfl | rfl | rfl | rfl <;> decide
  refine ⟨by omega, by omega, by omega, hp.1, hp.2.1, by omega, hp.2.2.1, hp.2.2.2.1, hp.2.2.2.2.1, hp.2.2.2.2.2, fun h7 => ?_, fun h7 => ?_⟩
  · by_cases hc : clsOf size = 7
    · exact hc
    · exact absurd (.inr ⟨h7, hc⟩) h2
  · by_cases hc : size = 0
    · exact hc
    · exact absurd (.inl ⟨by omega, hc⟩) h2
def SpanV (w : World) (b : Nat) (p : Option Addr) (pg pgs cl sz : Int) (n : Nat) (S : Nat → Bool) (F : Nat → Prop) : Prop :=
  ∃ t q G, p = some ⟨t, 0, none⟩ ∧ b ≤ t ∧ Blk w t Ty.span_Span [.pointer q, .int .i64 pg, .int .i64 pgs, .int .i64 cl, .int .i64 sz] ∧ SetV w b q n S G ∧ ¬ G t ∧ F = fun i => i = t ∨ G i
theorem SpanV.kp {w w' : World} {b : Nat} {p : Option Addr} {pg pgs cl sz : Int} {n : Nat} {S : Nat → Bool} {F X : Nat → Prop} (h : SpanV w b p pg pgs cl sz n S F) (k : Kp X w w') (hd : ∀ i, F i → ¬ X i) : SpanV w' b p pg pgs cl sz n S F := by
  obtain ⟨t, q, G, rfl, h1, h2, h3, h4, rfl⟩ := h
  exact ⟨t, q, G, rfl, h1, h2.kp k (hd t (.inl rfl)), h3.kp k (fun i hi => hd i (.inr hi)), h4, rfl⟩
theorem SpanV.lt {w : World} {b : Nat} {p : Option Addr} {pg pgs cl sz : Int} {n : Nat} {S : Nat → Bool} {F : Nat → Prop} (h : SpanV w b p pg pgs cl sz n S F) {i : Nat} (hi : F i) : b ≤ i ∧ i < w.heap.size := by
  obtain ⟨t, q, G, rfl, h1, h2, h3, h4, rfl⟩ := h
  rcases hi with rfl | hi
  · exact ⟨h1, h2.lt⟩
  · exact h3.lt hi
theorem SpanV.below {w w' : World} {b : Nat} {p : Option Addr} {pg pgs cl sz : Int} {n : Nat} {S : Nat → Bool} {F : Nat → Prop} (h : SpanV w b p pg pgs cl sz n S F) (k : Below w.heap.size w w') : SpanV w' b p pg pgs cl sz n S F := h.kp (Kp.of_below k) (fun _ _ => id)
theorem SpanV.base {w : World} {b b' : Nat} {p : Option Addr} {pg pgs cl sz : Int} {n : Nat} {S : Nat → Bool} {F : Nat → Prop} (h : SpanV w b p pg pgs cl sz n S F) (hb : b' ≤ b) : SpanV w b' p pg pgs cl sz n S F := by
  obtain ⟨t, q, G, rfl, h1, h2, h3, h4, rfl⟩ := h
  exact ⟨t, q, G, rfl, by omega, h2, h3.base hb, h4, rfl⟩
theorem SpanV.under {w w' : World} {b b0 : Nat} {p : Option Addr} {pg pgs cl sz : Int} {n : Nat} {S : Nat → Bool} {F : Nat → Prop} (h : SpanV w b p pg pgs cl sz n S F) (hb : b0 ≤ b) (hw : b0 ≤ w.heap.size) (k : Kp F w w') : Below b0 w w' :=
  k.below hw fun i hi hs => by have := (h.lt hs).1; omega
theorem SpanV.there {w : World} {b : Nat} {p : Option Addr} {pg pgs cl sz : Int} {n : Nat} {S : Nat → Bool} {F : Nat → Prop} (h : SpanV w b p pg pgs cl sz n S F) : p.isNone = false := by obtain ⟨t, q, G, rfl, _⟩ := h; rfl
theorem clampN_nat {n : Nat} (h : n ≤ 65536) : clampN (n : Int) = n := by have := (clampN_eq (n : Int)).1; unfold imax imin at this; (repeat' split at this) <;> omega
theorem span_New_c {pg cl size : Int} {K : Value → World → Prop} {w : World} (hpg : I64 pg) (hcl : I64 cl) (hsize : I64 size)
    (hE : ∀ w', newErr pg cl size ≠ 0 → Below w.heap.size w w' → K (.tuple #[.pointer none, .int .i64 (newErr pg cl size)]) w')
    (hK : ∀ w' p F, newErr pg cl size = 0 → SpanV w' w.heap.size p pg (pagesOf cl size) cl (spSize cl size) (slotsN cl) noneS F → Below w.heap.size w w' → K (.tuple #[.pointer p, .int .i64 0]) w') : CallsE Pg span_New.N #[.int .i64 pg, .int .i64 cl, .int .i64 size] w K := by
  refine span_New.ok (class_Size_c ⟨_, rfl, wlet_intro fun w1 h1 => ?_⟩)
  have b1 : Below w.heap.size w w1 := by rw [h1]; exact (Below.refl _ _).alloc (Nat.le_refl _) _
  have hB1 : Blk w1 w.heap.size Ty.span_Span [.pointer none, .int .i64 pg, .int .i64 1, .int .i64 cl, .int .i64 (clsSize cl)] := by rw [h1]; exact Blk.new w _ _
  clear h1
  have e11 : (cl < 0 ∨ 7 < cl) → K (.tuple #[.pointer none, .int .i64 11]) w1 := fun h => by
    have e : newErr pg cl size = 11 := by unfold newErr; rw [if_pos h]
    rw [e] at hE
    exact hE w1 (by decide) b1
  refine cond_dec (fun h => e11 (.inl h)) (fun h0 => ?_)
  show condP (decide (7 < cl)) _ _
  refine cond_dec (fun h => e11 (.inr h)) (fun h7 => ?_)
  have e2 : ((cl < 7 ∧ size ≠ 0) ∨ (cl = 7 ∧ clsOf size ≠ 7)) → newErr pg cl size = 2 := fun h => by unfold newErr; rw [if_neg (by omega), if_pos h]
  /- behind the sizes -/
  have rest : ∀ w2, ¬ ((cl < 7 ∧ size ≠ 0) ∨ (cl = 7 ∧ clsOf size ≠ 7)) → Below w.heap.size w w2 → Blk w2 w.heap.size Ty.span_Span [.pointer none, .int .i64 pg, .int .i64 (pagesOf cl size), .int .i64 cl, .int .i64 (spSize cl size)] → span_New.p4 K pg cl ⟨w.heap.size, 0, none⟩ w2 := fun w2 hn b2 hB2 => by
    have hpr : 0 ≤ pagesOf cl size ∧ pagesOf cl size ≤ 16 := by
      unfold pagesOf
      split
      · exact clsPages_range size
      · omega
    have e10 : (pg < 0 ∨ 4096 - pagesOf cl size < pg) → K (.tuple #[.pointer none, .int .i64 10]) w2 := fun h => by
      have e : newErr pg cl size = 10 := by unfold newErr; rw [if_neg (by omega), if_neg hn, if_pos h]
      rw [e] at hE
      exact hE w2 (by decide) b2
    refine cond_dec (fun h => e10 (.inl h)) (fun hp0 => ?_)
    refine ⟨_, rfl, _, by rw [add_at]; exact hB2.cell' (j := 2) rfl, ?_⟩
    rw [wrap64_in (by omega) (by omega)]
    refine cond_dec (fun h => e10 (.inr h)) (fun hp1 => ?_)
    have e0 : newErr pg cl size = 0 := by unfold newErr; rw [if_neg (by omega), if_neg hn, if_neg (by omega)]
    obtain ⟨hs1, hs2⟩ := clsSlots_nat cl
    refine class_Slots_c ⟨_, rfl, set_New_c fun w3 q G hs b3 => ⟨_, rfl, _, rfl, ?_⟩⟩
    rw [hs1, clampN_nat (by omega)] at hs
    have hB3 := hB2.kp (Kp.of_below b3) id
    have hlt := hB2.lt
    have b3' := b2.trans (b3.mono b2.size)
    have := blk_set1 (k := 0) (v := .pointer q) (Q := fun w22 => K (.tuple #[.pointer (some ⟨w.heap.size, 0, none⟩), .int .i64 0]) w22) hB3 (by simp) fun w4 hB4 k4 _ =>
      hK w4 _ _ e0 ⟨w.heap.size, q, G, rfl, Nat.le_refl _, hB4, (hs.kp k4 (fun i hi e => by have := (hs.lt hi).1; omega)).base (by have := b2.size; omega), fun hG => by have := (hs.lt hG).1; omega, rfl⟩
        (b3'.trans (k4.below b3'.size fun i hi e => by omega))
    rw [add_at] at this
    exact this
  have not7 : cl < 7 → size = 0 → span_New.p3 K pg cl size ⟨w.heap.size, 0, none⟩ false w1 := fun hc hs => by
    refine cond_eq (fun h => absurd h (by omega)) (fun _ => ?_)
    have hn7 : cl ≠ 7 := by omega
    refine rest w1 (by omega) b1 ?_
    have e1 : pagesOf cl size = 1 := by unfold pagesOf; rw [if_neg hn7]
    have e2 : spSize cl size = clsSize cl := by unfold spSize; rw [if_neg hn7]
    rw [e1, e2]; exact hB1
  refine cond_dec (fun hlt => ?_) (fun hge => ?_)
  · by_cases hs : size = 0
    · rw [hs]
      rw [hs] at not7
      exact not7 hlt rfl
    · have e : (size != 0) = true := by simpa using hs
      rw [e]
      have e2' := e2 (.inl ⟨hlt, hs⟩)
      rw [e2'] at hE
      exact hE w1 (by decide) b1
  · obtain rfl : cl = 7 := by omega
    refine condP_f (condP_t ?_)
    refine class_Of_c ⟨_, rfl, cond_ne (fun hc => ?_) (fun hc => ?_)⟩
    · have e2' := e2 (.inr ⟨rfl, hc⟩)
      rw [e2'] at hE
      exact hE w1 (by decide) b1
    · refine class_Pages_c ⟨_, rfl, _, rfl, ?_⟩
      refine blk_set1 (k := 2) hB1 (by simp) fun w2 hB2 k2 _ => ?_
      refine ⟨_, rfl, ?_⟩
      refine blk_set1 (k := 4) hB2 (by simp) fun w3 hB3 k3 _ => ?_
      have hlt := hB1.lt
      refine rest w3 (by omega) ((b1.trans (k2.below b1.size fun i hi e => by omega)).trans (k3.below (by have := b1.size; have := k2.size; omega) fun i hi e => by omega)) ?_
      have e1 : pagesOf 7 size = clsPages size := by unfold pagesOf; rw [if_pos rfl]
      have e2 : spSize 7 size = size := by unfold spSize; rw [if_pos rfl]
      rw [e1, e2]; exact hB3
section
variable {w : World} {b : Nat} {p : Option Addr} {pg pgs cl sz : Int} {n : Nat} {S : Nat → Bool} {F : Nat → Prop} {K : Value → World → Prop}
theorem taken_alloc {q : Option Addr} {Q : World → Prop} (hQ : ∀ w', Blk w' w.heap.size Ty.span_taken [.pointer q] → Below w.heap.size w w' → Q w') : wlet (w.alloc (.cells #[.pointer q] Ty.span_taken)) Q := by
  refine wlet_intro fun w1 h1 => hQ w1 ?_ ?_
  · rw [h1]; exact Blk.new w _ _
  · rw [h1]; exact (Below.refl _ _).alloc (Nat.le_refl _) _
theorem span_Span_Live_c (h : SpanV w b p pg pgs cl sz n S F) (hS : Within S n) (hK : ∀ w', Below w.heap.size w w' → K (.int .i64 ((cnt S 0 n : Nat) : Int)) w') : CallsE Pg span_Span_Live.N #[.pointer p] w K := by
  obtain ⟨t, q, G, rfl, h1, h2, h3, h4, rfl⟩ := h
  refine span_Span_Live.ok (condP_f ⟨_, rfl, _, h2.cell' (j := 0) rfl, ?_⟩)
  refine span_taken_Live.ok (taken_alloc fun w1 hB b1 => ⟨_, hB.cell' (j := 0) rfl, set_Set_Count_c (h3.below b1) hS ⟨_, rfl, ⟨_, rfl, hK w1 b1⟩⟩⟩)
theorem span_Span_Size_c (h : SpanV w b p pg pgs cl sz n S F) (hK : K (.int .i64 sz) w) : CallsE Pg span_Span_Size.N #[.pointer p] w K := by
  obtain ⟨t, q, G, rfl, h1, h2, h3, h4, rfl⟩ := h
  exact span_Span_Size.ok (condP_f ⟨_, rfl, _, h2.cell' (j := 4) rfl, hK⟩)
def atV (pg sz : Int) (n : Nat) (i : Int) : Int × Bool := if i < 0 ∨ n ≤ i then (0, false) else (pg * 256 + i * sz, true)
def slotV (pg sz : Int) (n : Nat) (at' : Int) : Int × Bool := if at' < pg * 256 then (0, false) else if (at' - pg * 256) % sz ≠ 0 ∨ n ≤ (at' - pg * 256) / sz then (0, false) else ((at' - pg * 256) / sz, true)
/-- The least free slot, or -1. -/
def freeV (S : Nat → Bool) (n : Nat) : Int := nxt S false 0 n
def takeS (S : Nat → Bool) (n : Nat) : Nat → Bool := if freeV S n < 0 then S else upd S (freeV S n).toNat true
theorem nxt_range {S : Nat → Bool} {want : Bool} : ∀ (k b : Nat), nxt S want b k = -1 ∨ ∃ j : Nat, nxt S want b k = j ∧ b ≤ j ∧ j < b + k ∧ S j = want
  | 0, _ => .inl rfl
  | k + 1, b => by
    rw [nxt]
    by_cases hs : S b = want
    · rw [if_pos hs]
      exact .inr ⟨b, rfl, Nat.le_refl _, by omega, hs⟩
    · rw [if_neg hs]
      rcases nxt_range (S := S) (want := want) k (b + 1) with h | ⟨j, h1, h2, h3, h4⟩
      · exact .inl h
      · exact .inr ⟨j, h1, by omega, by omega, h4⟩
theorem takeS_within (hS : Within S n) : Within (takeS S n) n := by
  unfold takeS freeV
  rcases nxt_range (S := S) (want := false) n 0 with h | ⟨j, h1, h2, h3, h4⟩
  · rw [h, if_pos (by decide)]; exact hS
  · rw [h1, if_neg (by omega), Int.toNat_natCast]
    intro i hi
    rw [upd_ne (by omega)]
    exact hS i hi
def takeV (S : Nat → Bool) (n : Nat) : Int × Bool := if freeV S n < 0 then (0, false) else (freeV S n, true)
end
/-! ### spans: their data -/
theorem st4 {w : World} {g : Nat} {e : TypeId} {a0 a1 a2 a3 v0 v1 v2 v3 : Value} {Q : World → Prop} (h : Blk w g e [a0, a1, a2, a3]) (hQ : ∀ w', Blk w' g e [v0, v1, v2, v3] → Kp (· = g) w w' → w'.heap.size = w.heap.size → Q w') :
    canStore w ⟨g, 0, none⟩ ∧ wlet (w.setCell ⟨g, 0, none⟩ v0) fun w1 => canStore w1 ⟨g, 1, none⟩ ∧ wlet (w1.setCell ⟨g, 1, none⟩ v1) fun w2 => canStore w2 ⟨g, 2, none⟩ ∧ wlet (w2.setCell ⟨g, 2, none⟩ v2) fun w3 => canStore w3 ⟨g, 3, none⟩ ∧ wlet (w3.setCell ⟨g, 3, none⟩ v3) Q := by
  have e : ∀ k, (⟨g, k, none⟩ : Addr) = (⟨g, 0, none⟩ : Addr).add k := fun k => by rw [add_at, Nat.zero_add]
  rw [e 0, e 1, e 2, e 3]
  refine blk_set1 (k := 0) h (by simp) fun w1 h1 k1 s1 => ?_
  refine blk_set1 (k := 1) h1 (by simp) fun w2 h2 k2 s2 => ?_
  refine blk_set1 (k := 2) h2 (by simp) fun w3 h3 k3 s3 => ?_
  refine blk_set1 (k := 3) h3 (by simp) fun w4 h4 k4 s4 => ?_
  exact hQ w4 h4 (((k1.trans k2 (fun _ _ h => h) (fun _ _ h => h)).trans k3 (fun _ _ h => h) (fun _ _ h => h)).trans k4 (fun _ _ h => h) (fun _ _ h => h)) (by rw [s4, s3, s2, s1])
theorem own_base {w : World} {base b' : Nat} {e : TypeId} {size n : Nat} {v : Value} {xs : List Value} (h : w.ownsRow base e size v n xs) (hb : b' ≤ base) : w.ownsRow b' e size v n xs := by
  refine ⟨h.1, ?_⟩
  rcases h.2 with h2 | ⟨g, cap, cur, h2, hbg, hh, h3, h4, h5, h6⟩
  · exact .inl h2
  · exact .inr ⟨g, cap, cur, h2, Nat.le_trans hb hbg, hh, h3, h4, h5, h6⟩
section
variable {w w0 : World} {b : Nat} {p : Option Addr} {pg pgs cl sz by' : Int} {n : Nat} {S : Nat → Bool} {F : Nat → Prop} {K : Value → World → Prop}
def dSize (cl sz : Int) : Int := if cl = 7 then sz else 0
end
/-! ### spans: the document's -/
section
variable {w w0 : World} {b : Nat} {p : Option Addr} {pg pgs cl sz by' : Int} {n : Nat} {S : Nat → Bool} {F : Nat → Prop} {K : Value → World → Prop}
def Ref10V (w : World) (b : Nat) (p : Option Addr) (pg cl by' : Int) (n : Nat) (S : Nat → Bool) (F : Nat → Prop) : Prop :=
  ∃ t g, p = some ⟨t, 0, none⟩ ∧ b ≤ t ∧ b ≤ g ∧ g ≠ t ∧ Blk w t Ty.ref10_Span [.int .i64 pg, .int .i64 cl, .int .i64 by', .slice (some ⟨g, 0, none⟩) n n] ∧ Blk w g Ty.bool (bools (ins S n)) ∧ n ≤ 16 ∧ F = fun i => i = t ∨ i = g
theorem Ref10V.kp {w' : World} {X : Nat → Prop} (h : Ref10V w b p pg cl by' n S F) (k : Kp X w w') (hd : ∀ i, F i → ¬ X i) : Ref10V w' b p pg cl by' n S F := by
  obtain ⟨t, g, rfl, h1, h2, h3, h4, h5, h6, rfl⟩ := h
  exact ⟨t, g, rfl, h1, h2, h3, h4.kp k (hd t (.inl rfl)), h5.kp k (hd g (.inr rfl)), h6, rfl⟩
theorem Ref10V.lt (h : Ref10V w b p pg cl by' n S F) {i : Nat} (hi : F i) : b ≤ i ∧ i < w.heap.size := by
  obtain ⟨t, g, rfl, h1, h2, h3, h4, h5, h6, rfl⟩ := h
  rcases hi with rfl | rfl
  · exact ⟨h1, h4.lt⟩
  · exact ⟨h2, h5.lt⟩
theorem Ref10V.below {w' : World} (h : Ref10V w b p pg cl by' n S F) (k : Below w.heap.size w w') : Ref10V w' b p pg cl by' n S F := h.kp (Kp.of_below k) (fun _ _ => id)
theorem Ref10V.base {b' : Nat} (h : Ref10V w b p pg cl by' n S F) (hb : b' ≤ b) : Ref10V w b' p pg cl by' n S F := by
  obtain ⟨t, g, rfl, h1, h2, h3, h4, h5, h6, rfl⟩ := h
  exact ⟨t, g, rfl, by omega, by omega, h3, h4, h5, h6, rfl⟩
theorem Ref10V.under {w' : World} {b0 : Nat} (h : Ref10V w b p pg cl by' n S F) (hb : b0 ≤ b) (hw : b0 ≤ w.heap.size) (k : Kp F w w') : Below b0 w w' :=
  k.below hw fun i hi hs => by have := (h.lt hs).1; omega
theorem ref10_Pages_c {size : Int} (hK : K (.int .i64 (pagesOf cl size)) w) : CallsE Pg ref10_Pages.N #[.int .i64 cl, .int .i64 size] w K := by
  unfold pagesOf at hK
  refine ref10_Pages.ok (cond_eq (fun h => ?_) (fun h => ?_))
  · rw [if_pos h] at hK
    exact ref06_Pages_c ⟨_, rfl, hK⟩
  · rw [if_neg h] at hK
    exact hK
theorem ref10_New_c {size : Int} (hpg : I64 pg) (hcl : I64 cl) (hsize : I64 size)
    (hE : newErr pg cl size ≠ 0 → K (.tuple #[.pointer none, .int .i64 (newErr pg cl size)]) w)
    (hK : ∀ w' p F, newErr pg cl size = 0 → Ref10V w' w.heap.size p pg cl size (slotsN cl) noneS F → Below w.heap.size w w' → K (.tuple #[.pointer p, .int .i64 0]) w') : CallsE Pg ref10_New.N #[.int .i64 pg, .int .i64 cl, .int .i64 size] w K := by
  refine ref10_New.ok ?_
  have e11 : (cl < 0 ∨ 7 < cl) → K (.tuple #[.pointer none, .int .i64 11]) w := fun h => by
    have e : newErr pg cl size = 11 := by unfold newErr; rw [if_pos h]
    rw [e] at hE
    exact hE (by decide)
  refine cond_dec (fun h => e11 (.inl h)) (fun h0 => ?_)
  show condP (decide (7 < cl)) _ _
  refine cond_dec (fun h => e11 (.inr h)) (fun h7 => ?_)
  have e2 : ((cl < 7 ∧ size ≠ 0) ∨ (cl = 7 ∧ clsOf size ≠ 7)) → K (.tuple #[.pointer none, .int .i64 2]) w := fun h => by
    have e : newErr pg cl size = 2 := by unfold newErr; rw [if_neg (by omega), if_pos h]
    rw [e] at hE
    exact hE (by decide)
  have rest : ¬ ((cl < 7 ∧ size ≠ 0) ∨ (cl = 7 ∧ clsOf size ≠ 7)) → ref10_New.p4 K pg cl size w := fun hn => by
    have hpr : 0 ≤ pagesOf cl size ∧ pagesOf cl size ≤ 16 := by
      unfold pagesOf
      split
      · exact clsPages_range size
      · omega
    have e10 : (pg < 0 ∨ 4096 - pagesOf cl size < pg) → K (.tuple #[.pointer none, .int .i64 10]) w := fun h => by
      have e : newErr pg cl size = 10 := by unfold newErr; rw [if_neg (by omega), if_neg hn, if_pos h]
      rw [e] at hE
      exact hE (by decide)
    refine cond_dec (fun h => e10 (.inl h)) (fun hp0 => ?_)
    refine ref10_Pages_c ⟨_, rfl, ?_⟩
    rw [wrap64_in (by omega) (by omega)]
    refine cond_dec (fun h => e10 (.inr h)) (fun hp1 => ?_)
    have e0 : newErr pg cl size = 0 := by unfold newErr; rw [if_neg (by omega), if_neg hn, if_neg (by omega)]
    obtain ⟨hs1, hs2⟩ := clsSlots_nat cl
    refine ref06_Slots_c ⟨_, rfl, ?_⟩
    rw [hs1, Int.toNat_natCast, made_bools]
    refine ⟨⟨by omega, by omega, by omega, by omega⟩, wlet_intro fun w1 h1 => wlet_intro fun w2 h2 => ?_⟩
    have hal : Below w.heap.size w w1 := by rw [h1]; exact (Below.refl _ _).alloc (Nat.le_refl _) _
    have hg : Blk w1 w.heap.size Ty.bool (bools (List.replicate (slotsN cl) false)) := by rw [h1]; exact Blk.new w _ _
    clear h1
    have hal2 : Below w1.heap.size w1 w2 := by rw [h2]; exact (Below.refl _ _).alloc (Nat.le_refl _) _
    have hB : Blk w2 w1.heap.size Ty.ref10_Span [.int .i64 pg, .int .i64 cl, .int .i64 size, .slice (some ⟨w.heap.size, 0, none⟩) (slotsN cl) (slotsN cl)] := by rw [h2]; exact Blk.new w1 _ _
    clear h2
    have hg2 := hg.kp (Kp.of_below hal2) id
    have hlt := hg.lt
    rw [← ins_none] at hg2
    exact hK w2 _ _ e0 ⟨w1.heap.size, w.heap.size, rfl, hal.size, Nat.le_refl _, by omega, hB, hg2, hs2, rfl⟩ (hal.trans (hal2.mono hal.size))
  refine cond_dec (fun hlt => ?_) (fun hge => ?_)
  · refine cond_ne (fun hs => e2 (.inl ⟨hlt, hs⟩)) (fun hs => ?_)
    refine cond_eq (fun h => absurd h (by omega)) (fun _ => ?_)
    exact rest (by omega)
  · obtain rfl : cl = 7 := by omega
    refine condP_t (ref06_Of_c ⟨_, rfl, ?_⟩)
    refine cond_ne (fun hc => e2 (.inr ⟨rfl, hc⟩)) (fun hc => rest (by omega))
theorem ref10_Span_Size_c (h : Ref10V w b p pg cl by' n S F) (hK : K (.int .i64 (spSize cl by')) w) : CallsE Pg ref10_Span_Size.N #[.pointer p] w K := by
  obtain ⟨t, g, rfl, h1, h2, h3, h4, h5, h6, rfl⟩ := h
  unfold spSize at hK
  refine ref10_Span_Size.ok ⟨_, rfl, _, h4.cell' (j := 1) rfl, cond_eq (fun hc => ?_) (fun hc => ?_)⟩
  · rw [if_pos hc] at hK
    exact ⟨_, rfl, _, h4.cell' (j := 2) rfl, hK⟩
  · rw [if_neg hc] at hK
    exact ⟨_, rfl, _, h4.cell' (j := 1) rfl, ref06_Size_c ⟨_, rfl, hK⟩⟩
theorem slot_hit {z i off : Int} (hz : 1 ≤ z) : (off % z = 0 ∧ off / z = i) ↔ off = i * z := by
  constructor
  · rintro ⟨h1, rfl⟩
    have := Int.emod_add_mul_ediv off z
    rw [h1, Int.zero_add, Int.mul_comm] at this
    exact this.symm
  · rintro rfl
    exact ⟨Int.mul_emod_left _ _, Int.mul_ediv_cancel _ (by omega)⟩
theorem ref10_Same_c {A B : Option Addr} {m m' c c' : Nat} {x y z : Int} {l : List Int} (hx : Cs w A (nums .i64 l)) (hy : Cs w B (nums .i64 l)) (hm : m = l.length) (hm' : m' = l.length) (hl : m ≤ 1000000000000000) (hK : ∀ w', Below w.heap.size w w' → K (.bool true) w') :
    CallsE Pg ref10_Same.N #[.agg #[.int .i64 x, .int .i64 y, .int .i64 z, .slice A m c], .agg #[.int .i64 x, .int .i64 y, .int .i64 z, .slice B m' c']] w K := by
  refine ref10_Same.ok (wlet_intro fun w1 e1 => ?_)
  have b1 : Below w.heap.size w w1 := by rw [e1]; exact (Below.refl _ _).alloc (Nat.le_refl _) _
  have hB1 : Blk w1 w.heap.size Ty.api_Span [.int .i64 x, .int .i64 y, .int .i64 z, .slice A m c] := by rw [e1]; exact Blk.new w _ _
  clear e1
  refine wlet_intro fun w2 e2 => ?_
  have b2 : Below w1.heap.size w1 w2 := by rw [e2]; exact (Below.refl _ _).alloc (Nat.le_refl _) _
  have hB2 : Blk w2 w1.heap.size Ty.api_Span [.int .i64 x, .int .i64 y, .int .i64 z, .slice B m' c'] := by rw [e2]; exact Blk.new w1 _ _
  clear e2
  have b2' := b1.trans (b2.mono b1.size)
  have hB1' := hB1.kp (Kp.of_below b2) id
  refine ⟨_, hB1'.cell' (j := 0) rfl, _, hB2.cell' (j := 0) rfl, cond_eq (fun _ => ?_) (fun h => absurd rfl h)⟩
  refine ⟨_, hB1'.cell' (j := 1) rfl, _, hB2.cell' (j := 1) rfl, cond_eq (fun _ => ?_) (fun h => absurd rfl h)⟩
  refine ⟨_, hB1'.cell' (j := 2) rfl, _, hB2.cell' (j := 2) rfl, cond_eq (fun _ => ?_) (fun h => absurd rfl h)⟩
  refine ⟨_, _, _, hB1'.cell' (j := 3) rfl, _, _, _, hB2.cell' (j := 3) rfl, ?_⟩
  exact ref01_Ints_c (hx.below b2') (hy.below b2') hm hm' hl ⟨_, rfl, hK w2 b2'⟩
end
/-! ### spans out of data -/
def riseV (n : Nat) : Int → List Int → Bool
  | _, [] => true
  | last, x :: l => if x ≤ last ∨ (n : Int) ≤ x then false else riseV n x l
def setL (l : List Int) : Nat → Bool := fun i => decide ((i : Int) ∈ l)
def ofErr (pg cl size : Int) (l : List Int) : Int := if newErr pg cl size ≠ 0 then newErr pg cl size else if riseV (slotsN cl) (-1) l = true then 0 else 4
theorem setL_nil : setL [] = noneS := funext fun i => by unfold setL noneS; simp
theorem setL_snoc {l : List Int} {x : Nat} : upd (setL l) x true = setL (l ++ [(x : Int)]) := funext fun i => by
  unfold upd setL
  by_cases h : i = x
  · rw [if_pos h, h]; simp
  · rw [if_neg h]
    refine decide_eq_decide.2 ?_
    simp only [List.mem_append, List.mem_singleton]
    constructor
    · exact .inl
    · rintro (h1 | h1)
      · exact h1
      · exact absurd (by omega) h
theorem setL_within {l : List Int} {n : Nat} (h : ∀ y ∈ l, y < (n : Int)) : Within (setL l) n := fun i hi => by
  unfold setL
  refine decide_eq_false fun hm => ?_
  have := h _ hm
  omega
section
variable {w w0 : World} {b : Nat} {p : Option Addr} {pg pgs cl sz by' size : Int} {n : Nat} {S : Nat → Bool} {F : Nat → Prop} {K : Value → World → Prop} {l : List Int}
theorem of_loop {A : Option Addr} {m c : Nat} (hx : Cs w0 A (nums .i64 l)) (hm : m = l.length) (hml : m ≤ 1000000000000000) (hi : ∀ x ∈ l, I64 x) (hb0 : w0.heap.size ≤ b) (hn : n ≤ 16)
    (hE : ∀ w', riseV n (-1) l = false → Below w0.heap.size w0 w' → K (.tuple #[.pointer none, .int .i64 4]) w')
    (hK : ∀ w', riseV n (-1) l = true → SpanV w' b p pg pgs cl sz n (setL l) F → Within (setL l) n → Below w0.heap.size w0 w' → K (.tuple #[.pointer p, .int .i64 0]) w') :
    ∀ (d k : Nat) (last : Int) (w : World), k + d = m → -1 ≤ last → last ≤ 16 → (∀ y ∈ l.take k, y ≤ last ∧ y < (n : Int)) → riseV n last (l.drop k) = riseV n (-1) l → Below w0.heap.size w0 w → SpanV w b p pg pgs cl sz n (setL (l.take k)) F → span_Of.l0 K (d + 1) p last A m c m k w := by
  intro d
  induction d with
  | zero =>
    intro k last w hk h0 h1 hin hr hb h
    rw [span_Of.l0_succ]
    show condP (decide ((k : Int) < _)) _ _
    refine cond_dec (fun h => by omega) (fun _ => ?_)
    rw [List.drop_of_length_le (by omega), riseV] at hr
    rw [List.take_of_length_le (by omega)] at h hin
    exact hK w hr.symm h (setL_within fun y hy => (hin y hy).2) hb
  | succ d ih =>
    intro k last w hk h0 h1 hin hr hb h
    rw [span_Of.l0_succ]
    show condP (decide ((k : Int) < _)) _ _
    refine cond_dec (fun _ => ?_) (fun h => absurd h (by omega))
    have hlt : k < l.length := by omega
    have hxk : l[k]? = some l[k] := List.getElem?_eq_getElem hlt
    have hik := hi _ (List.getElem_mem hlt)
    obtain ⟨a, rfl, c0⟩ := (hx.below hb).at (nums_at hxk)
    rw [List.drop_eq_getElem_cons hlt, riseV] at hr
    have et : l.take (k + 1) = l.take k ++ [l[k]] := take_snoc hxk
    unfold span_Of.p6
    rw [Int.toNat_natCast]
    refine ⟨⟨by omega, by omega⟩, a, rfl, _, c0, ?_⟩
    refine cond_dec (fun hle => ?_) (fun hgt => ?_)
    · rw [if_pos (.inl hle)] at hr
      exact hE w hr.symm hb
    · have hw : Within (setL (l.take k)) n := setL_within fun y hy => (hin y hy).2
      obtain ⟨x, hxe⟩ : ∃ x : Nat, l[k] = x := ⟨l[k].toNat, by omega⟩
      rw [hxe] at hr et hgt hik ⊢
      have hnot : setL (l.take k) x = false := by
        unfold setL
        refine decide_eq_false fun hmem => ?_
        have := (hin _ hmem).1
        omega
      obtain ⟨t, q, G, rfl, g1, g2, g3, g4, rfl⟩ := h
      refine ⟨_, rfl, _, g2.cell' (j := 0) rfl, set_Set_Add_c g3 hw hik fun w1 h3 k3 => ⟨_, rfl, ?_⟩⟩
      have hb1 := hb.trans (k3.below hb.size fun i hi hg => by have := (g3.lt hg).1; omega)
      by_cases hxn : x < n
      · have hc : canPut (setL (l.take k)) n (x : Int) true = true := by unfold canPut; rw [Int.toNat_natCast, hnot, decide_eq_true (by omega), decide_eq_true (by omega)]; rfl
        have es : putS (setL (l.take k)) n (x : Int) true = setL (l.take (k + 1)) := by unfold putS; rw [if_pos hc, Int.toNat_natCast, setL_snoc, et]
        rw [hc]
        rw [es] at h3
        rw [if_neg (by omega)] at hr
        show span_Of.l0 K (d + 1) _ (x : Int) (some a) m c m (IntKind.wrap .i64 ((k : Int) + 1)) w1
        rw [cst k (by omega)]
        refine ih (k + 1) x w1 (by omega) (by omega) (by omega) (fun y hy => ?_) hr hb1 ⟨t, q, G, rfl, g1, g2.kp k3 g4, h3, g4, rfl⟩
        rw [et] at hy
        rcases List.mem_append.1 hy with hy | hy
        · have := hin y hy; exact ⟨by omega, this.2⟩
        · obtain rfl := List.mem_singleton.1 hy
          exact ⟨Int.le_refl _, by omega⟩
      · have hc : canPut (setL (l.take k)) n (x : Int) true = false := by unfold canPut; rw [decide_eq_false (show ¬ (x : Int) < n by omega)]; simp
        rw [hc]
        rw [if_pos (.inr (by omega))] at hr
        exact hE w1 hr.symm hb1
theorem span_Of_c {A : Option Addr} {m c : Nat} (hpg : I64 pg) (hcl : I64 cl) (hsize : I64 size) (hx : Cs w A (nums .i64 l)) (hm : m = l.length) (hml : m ≤ 1000000000000000) (hi : ∀ x ∈ l, I64 x)
    (hE : ∀ w', ofErr pg cl size l ≠ 0 → Below w.heap.size w w' → K (.tuple #[.pointer none, .int .i64 (ofErr pg cl size l)]) w')
    (hK : ∀ w' p F, ofErr pg cl size l = 0 → newErr pg cl size = 0 → riseV (slotsN cl) (-1) l = true → SpanV w' w.heap.size p pg (pagesOf cl size) cl (spSize cl size) (slotsN cl) (setL l) F → Within (setL l) (slotsN cl) → Below w.heap.size w w' → K (.tuple #[.pointer p, .int .i64 0]) w') :
    CallsE Pg span_Of.N #[.agg #[.int .i64 pg, .int .i64 cl, .int .i64 size, .slice A m c]] w K := by
  refine span_Of.ok (wlet_intro fun w1 e1 => ?_)
  have b1 : Below w.heap.size w w1 := by rw [e1]; exact (Below.refl _ _).alloc (Nat.le_refl _) _
  have hB1 : Blk w1 w.heap.size Ty.api_Span [.int .i64 pg, .int .i64 cl, .int .i64 size, .slice A m c] := by rw [e1]; exact Blk.new w _ _
  clear e1
  refine ⟨_, hB1.cell' (j := 0) rfl, _, hB1.cell' (j := 1) rfl, _, hB1.cell' (j := 2) rfl, ?_⟩
  refine span_New_c hpg hcl hsize (fun w2 he b2 => ⟨_, _, rfl, ?_⟩) (fun w2 p F he h b2 => ⟨_, _, rfl, ?_⟩)
  · have e : ofErr pg cl size l = newErr pg cl size := by unfold ofErr; rw [if_pos he]
    rw [e] at hE
    exact cond_ne (fun _ => hE w2 he (b1.trans (b2.mono b1.size))) (fun h => absurd h he)
  · have b2' := b1.trans (b2.mono b1.size)
    refine cond_ne (fun h => absurd rfl h) (fun _ => ?_)
    refine ⟨_, _, _, (hB1.kp (Kp.of_below b2) id).cell' (j := 3) rfl, m + 1, ?_⟩
    have hs := (clsSlots_nat cl).2
    refine of_loop (w0 := w) hx hm hml hi b1.size hs (fun w' hr hb => ?_) (fun w' hr h' hw hb => ?_) m 0 (-1) w2 (by omega) (by decide) (by decide) (fun y hy => by cases hy) rfl b2' (by rw [List.take_zero, setL_nil]; exact h)
    · have e : ofErr pg cl size l = 4 := by unfold ofErr; rw [if_neg (by rw [he]; decide), hr]; rfl
      rw [e] at hE
      exact hE w' (by decide) hb
    · have e : ofErr pg cl size l = 0 := by unfold ofErr; rw [if_neg (by rw [he]; decide), hr]; rfl
      exact hK w' p F e he hr (h'.base b1.size) hw hb
theorem rof_loop {A : Option Addr} {m c g1 : Nat} {u0 u1 u2 : Value} (hx : Cs w0 A (nums .i64 l)) (hm : m = l.length) (hml : m ≤ 1000000000000000) (hi : ∀ x ∈ l, I64 x) (hb0 : w0.heap.size ≤ b) (hn : n ≤ 16) (hF : ∀ i, F i → i ≠ g1)
    (hE : ∀ w', riseV n (-1) l = false → Below w0.heap.size w0 w' → K (.tuple #[.pointer none, .int .i64 4]) w')
    (hK : ∀ w', riseV n (-1) l = true → Ref10V w' b p pg cl by' n (setL l) F → Below w0.heap.size w0 w' → K (.tuple #[.pointer p, .int .i64 0]) w') :
    ∀ (d k : Nat) (last : Int) (w : World), k + d = m → -1 ≤ last → (k = 0 ∧ last = -1 ∨ 0 < k ∧ 0 ≤ last ∧ l[k - 1]? = some last) → (∀ y ∈ l.take k, y ≤ last ∧ y < (n : Int)) → riseV n last (l.drop k) = riseV n (-1) l → Below w0.heap.size w0 w → Blk w g1 Ty.api_Span [u0, u1, u2, .slice A m c] → Ref10V w b p pg cl by' n (setL (l.take k)) F → ref10_Of.l0 K (d + 1) ⟨g1, 0, none⟩ p A m c m k w := by
  intro d
  induction d with
  | zero =>
    intro k last w hk h0 hp hin hr hb hB h
    rw [ref10_Of.l0_succ]
    show condP (decide ((k : Int) < _)) _ _
    refine cond_dec (fun h => by omega) (fun _ => ?_)
    rw [List.drop_of_length_le (by omega), riseV] at hr
    rw [List.take_of_length_le (by omega)] at h
    exact hK w hr.symm h hb
  | succ d ih =>
    intro k last w hk h0 hp hin hr hb hB h
    rw [ref10_Of.l0_succ]
    show condP (decide ((k : Int) < _)) _ _
    refine cond_dec (fun _ => ?_) (fun h => absurd h (by omega))
    have hlt : k < l.length := by omega
    have hxk : l[k]? = some l[k] := List.getElem?_eq_getElem hlt
    have hik := hi _ (List.getElem_mem hlt)
    obtain ⟨a, rfl, c0⟩ := (hx.below hb).at (nums_at hxk)
    rw [List.drop_eq_getElem_cons hlt, riseV] at hr
    have et : l.take (k + 1) = l.take k ++ [l[k]] := take_snoc hxk
    unfold ref10_Of.p5
    rw [Int.toNat_natCast]
    refine ⟨⟨by omega, by omega⟩, a, rfl, _, c0, ?_⟩
    have bad : (l[k] ≤ last ∨ (n : Int) ≤ l[k]) → K (.tuple #[.pointer none, .int .i64 4]) w := fun hbad => by
      rw [if_pos hbad] at hr
      exact hE w hr.symm hb
    refine cond_dec (fun hneg => bad (.inl (by omega))) (fun hge => ?_)
    obtain ⟨t, g, rfl, h1, h2, h3, h4, h5, h6, rfl⟩ := h
    refine ⟨_, rfl, _, _, _, h4.cell' (j := 3) rfl, cond_dec (fun hbig => bad (.inr hbig)) (fun hlt2 => ?_)⟩
    obtain ⟨x, hxe⟩ : ∃ x : Nat, l[k] = x := ⟨l[k].toNat, by omega⟩
    rw [hxe] at hr et hge hlt2 hik bad ⊢
    have good : ¬ ((x : Int) ≤ last) → ref10_Of.p7 (ref10_Of.l0 K (d + 1)) K ⟨g1, 0, none⟩ (some ⟨t, 0, none⟩) x (some a) m c m k false w := fun hgt => by
      rw [if_neg (by omega)] at hr
      show ref10_Of.p8 (ref10_Of.l0 K (d + 1)) K ⟨g1, 0, none⟩ (some ⟨t, 0, none⟩) x (some a) m c m k w
      unfold ref10_Of.p8
      rw [Int.toNat_natCast]
      refine ⟨_, rfl, _, _, _, h4.cell' (j := 3) rfl, ⟨by omega, by omega⟩, _, rfl, ?_⟩
      refine blk_set1 (k := x) h5 (by rw [bools_len, ins_len]; omega) fun w' hB' hk' _ => ?_
      rw [bools_set, ins_set (by omega), setL_snoc, ← et] at hB'
      show ref10_Of.l0 K (d + 1) ⟨g1, 0, none⟩ _ (some a) m c m (IntKind.wrap .i64 ((k : Int) + 1)) w'
      rw [cst k (by omega)]
      refine ih (k + 1) x w' (by omega) (by omega) (.inr ⟨by omega, by omega, by rw [Nat.add_sub_cancel, hxk, hxe]⟩) (fun y hy => ?_) hr (hb.trans (hk'.below hb.size fun i hi e => by omega)) (hB.kp hk' (fun e => hF g (.inr rfl) e.symm)) ⟨t, g, rfl, h1, h2, h3, h4.kp hk' (fun e => h3 e.symm), hB', h6, rfl⟩
      rw [et] at hy
      rcases List.mem_append.1 hy with hy | hy
      · have := hin y hy; exact ⟨by omega, this.2⟩
      · obtain rfl := List.mem_singleton.1 hy
        exact ⟨Int.le_refl _, by omega⟩
    refine cond_dec (fun hk0 => ?_) (fun hk0 => ?_)
    · rcases hp with ⟨h, _⟩ | ⟨_, hl0, hprev⟩
      · omega
      · have ek : IntKind.wrap .i64 ((k : Int) - 1) = ((k - 1 : Nat) : Int) := by rw [wrap64_in (by omega) (by omega)]; omega
        obtain ⟨a', e, c1⟩ := (hx.below hb).at (nums_at hprev)
        cases e
        rw [ek, Int.toNat_natCast]
        refine ⟨_, _, _, hB.cell' (j := 3) rfl, ⟨by omega, by omega⟩, _, rfl, _, c1, ?_⟩
        by_cases hle : (x : Int) ≤ last
        · rw [decide_eq_true hle]; exact bad (.inl hle)
        · rw [decide_eq_false hle]; exact good hle
    · rcases hp with ⟨_, rfl⟩ | ⟨h, _⟩
      · exact good (by omega)
      · omega
theorem ref10_Of_c {A : Option Addr} {m c : Nat} (hpg : I64 pg) (hcl : I64 cl) (hsize : I64 size) (hx : Cs w A (nums .i64 l)) (hm : m = l.length) (hml : m ≤ 1000000000000000) (hi : ∀ x ∈ l, I64 x)
    (hE : ∀ w', ofErr pg cl size l ≠ 0 → Below w.heap.size w w' → K (.tuple #[.pointer none, .int .i64 (ofErr pg cl size l)]) w')
    (hK : ∀ w' p F, ofErr pg cl size l = 0 → Ref10V w' w.heap.size p pg cl size (slotsN cl) (setL l) F → Below w.heap.size w w' → K (.tuple #[.pointer p, .int .i64 0]) w') :
    CallsE Pg ref10_Of.N #[.agg #[.int .i64 pg, .int .i64 cl, .int .i64 size, .slice A m c]] w K := by
  refine ref10_Of.ok (wlet_intro fun w1 e1 => ?_)
  have b1 : Below w.heap.size w w1 := by rw [e1]; exact (Below.refl _ _).alloc (Nat.le_refl _) _
  have hB1 : Blk w1 w.heap.size Ty.api_Span [.int .i64 pg, .int .i64 cl, .int .i64 size, .slice A m c] := by rw [e1]; exact Blk.new w _ _
  clear e1
  refine ⟨_, hB1.cell' (j := 0) rfl, _, hB1.cell' (j := 1) rfl, _, hB1.cell' (j := 2) rfl, ?_⟩
  refine ref10_New_c hpg hcl hsize (fun he => ⟨_, _, rfl, ?_⟩) (fun w2 p F he h b2 => ⟨_, _, rfl, ?_⟩)
  · have e : ofErr pg cl size l = newErr pg cl size := by unfold ofErr; rw [if_pos he]
    rw [e] at hE
    exact cond_ne (fun _ => hE w1 he b1) (fun h => absurd h he)
  · have b2' := b1.trans (b2.mono b1.size)
    refine cond_ne (fun h => absurd rfl h) (fun _ => ?_)
    have hB2 := hB1.kp (Kp.of_below b2) id
    refine ⟨_, _, _, hB2.cell' (j := 3) rfl, m + 1, ?_⟩
    have hs := (clsSlots_nat cl).2
    have hl1 := hB1.lt
    have hF0 : ∀ i, F i → i ≠ w.heap.size := fun i hi => by have := (h.lt hi).1; omega
    refine rof_loop (w0 := w) (g1 := w.heap.size) hx hm hml hi b1.size hs hF0 (fun w' hr hb => ?_) (fun w' hr h' hb => ?_) m 0 (-1) w2 (by omega) (by decide) (.inl ⟨rfl, rfl⟩) (fun y hy => by cases hy) rfl b2' hB2 (by rw [List.take_zero, setL_nil]; exact h)
    · have e : ofErr pg cl size l = 4 := by unfold ofErr; rw [if_neg (by rw [he]; decide), hr]; rfl
      rw [e] at hE
      exact hE w' (by decide) hb
    · have e : ofErr pg cl size l = 0 := by unfold ofErr; rw [if_neg (by rw [he]; decide), hr]; rfl
      exact hK w' p F e (h'.base b1.size) hb
end
theorem rise_mem {n : Nat} {S : Nat → Bool} : ∀ (k b : Nat) (last : Int), last < (b : Int) → b + k ≤ n → riseV n last (memL S b k) = true
  | 0, _, _, _, _ => rfl
  | k + 1, b, last, h, hn => by
    rw [memL]
    split
    · rw [riseV, if_neg (by omega)]
      exact rise_mem k (b + 1) b (by omega) (by omega)
    · exact rise_mem k (b + 1) last (by omega) (by omega)
theorem mem_iff {S : Nat → Bool} : ∀ (k b i : Nat), (i : Int) ∈ memL S b k ↔ b ≤ i ∧ i < b + k ∧ S i = true
  | 0, b, i => by simp [memL]; omega
  | k + 1, b, i => by
    have ih := mem_iff (S := S) k (b + 1) i
    rw [memL]
    cases hs : S b with
    | true =>
      rw [if_pos rfl, List.mem_cons, ih]
      constructor
      · rintro (h | h)
        · have e : i = b := by omega
          exact ⟨by omega, by omega, by rw [e]; exact hs⟩
        · exact ⟨by omega, by omega, h.2.2⟩
      · rintro ⟨h1, h2, h3⟩
        by_cases e : i = b
        · exact .inl (by omega)
        · exact .inr ⟨by omega, by omega, h3⟩
    | false =>
      rw [if_neg (by decide), ih]
      constructor
      · rintro ⟨h1, h2, h3⟩; exact ⟨by omega, by omega, h3⟩
      · rintro ⟨h1, h2, h3⟩
        by_cases e : i = b
        · rw [e, hs] at h3; cases h3
        · exact ⟨by omega, by omega, h3⟩
theorem setL_mem {S : Nat → Bool} {n : Nat} (hS : Within S n) : setL (memL S 0 n) = S := funext fun i => by
  unfold setL
  cases hs : S i with
  | true =>
    refine decide_eq_true ((mem_iff n 0 i).2 ⟨by omega, ?_, hs⟩)
    by_cases h : i < n
    · omega
    · rw [hS i (by omega)] at hs; cases hs
  | false => exact decide_eq_false fun h => by rw [((mem_iff n 0 i).1 h).2.2] at hs; cases hs
theorem rise_all {n : Nat} : ∀ (l : List Int) (last : Int), riseV n last l = true → ∀ x ∈ l, last < x ∧ x < (n : Int)
  | [], _, _ => fun x hx => by cases hx
  | y :: l, last, h => by
    rw [riseV] at h
    by_cases hb : y ≤ last ∨ (n : Int) ≤ y
    · rw [if_pos hb] at h; cases h
    rw [if_neg hb] at h
    intro x hx
    rcases List.mem_cons.1 hx with rfl | hx
    · exact ⟨by omega, by omega⟩
    · have := rise_all l y h x hx
      exact ⟨by omega, this.2⟩
theorem memL_same {S T : Nat → Bool} : ∀ (k b : Nat), (∀ i, b ≤ i → i < b + k → S i = T i) → memL S b k = memL T b k
  | 0, _, _ => rfl
  | k + 1, b, h => by rw [memL, memL, h b (by omega) (by omega), memL_same k (b + 1) (fun i h1 h2 => h i (by omega) (by omega))]
theorem memL_none : ∀ (k b : Nat), memL noneS b k = []
  | 0, _ => rfl
  | k + 1, b => by rw [memL]; exact memL_none k (b + 1)
/-- The list of the set of a rising list is that list. -/
theorem mem_setL {n : Nat} : ∀ (l : List Int) (b : Nat), b ≤ n → riseV n ((b : Int) - 1) l = true → memL (setL l) b (n - b) = l
  | [], b, _, _ => by rw [setL_nil]; exact memL_none _ _
  | y :: l, b, hb, h => by
    rw [riseV] at h
    by_cases hbad : y ≤ (b : Int) - 1 ∨ (n : Int) ≤ y
    · rw [if_pos hbad] at h; cases h
    rw [if_neg hbad] at h
    obtain ⟨x, rfl⟩ := Int.eq_ofNat_of_zero_le (show 0 ≤ y by omega)
    have hall := rise_all l x h
    have low : ∀ i, i < x → setL ((x : Int) :: l) i = false := fun i hi => by
      unfold setL
      refine decide_eq_false fun hm => ?_
      rcases List.mem_cons.1 hm with h1 | h1
      · omega
      · have := hall _ h1; omega
    have skip : ∀ (d f : Nat), f + d = x → b ≤ f → memL (setL ((x : Int) :: l)) f (n - f) = memL (setL ((x : Int) :: l)) x (n - x) := by
      intro d
      induction d with
      | zero => intro f hf _; have e : f = x := by omega
                rw [e]
      | succ d ih =>
        intro f hf hbf
        obtain ⟨k, hk⟩ : ∃ k, n - f = k + 1 := ⟨n - f - 1, by omega⟩
        have hk2 : k = n - (f + 1) := by omega
        rw [hk, memL, low f (by omega), if_neg (by decide), hk2]
        exact ih (f + 1) (by omega) (by omega)
    rw [skip (x - b) b (by omega) (Nat.le_refl _)]
    obtain ⟨k, hk⟩ : ∃ k, n - x = k + 1 := ⟨n - x - 1, by omega⟩
    have hk2 : k = n - (x + 1) := by omega
    have hx : setL ((x : Int) :: l) x = true := by unfold setL; simp
    rw [hk, memL, hx, if_pos rfl, hk2]
    have ih := mem_setL (n := n) l (x + 1) (by omega) (by rw [show (((x + 1 : Nat) : Int) - 1) = (x : Int) from by omega]; exact h)
    have es : memL (setL ((x : Int) :: l)) (x + 1) (n - (x + 1)) = memL (setL l) (x + 1) (n - (x + 1)) := memL_same _ _ fun i h1 h2 => by
      unfold setL
      refine decide_eq_decide.2 ?_
      rw [List.mem_cons]
      constructor
      · rintro (h3 | h3)
        · omega
        · exact h3
      · exact .inr
    rw [es, ih]

end Go.Proofs.YtogmnhdadggnbaaDoor.C
