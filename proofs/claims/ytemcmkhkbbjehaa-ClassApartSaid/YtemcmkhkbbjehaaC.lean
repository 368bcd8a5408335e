/-
  Parts of the proofs of this seat: what the functions compute. No condition beyond what each theorem states.
-/
import Derived.Test.YtemcmkhkbbjehaaF
import Derived.Test.YtemcmkhkbbjehaaRK
set_option linter.unusedVariables false
set_option linter.unusedSimpArgs false
set_option maxRecDepth 100000
namespace Go.Proofs.Ytemcmkhkbbjehaa.C
open Go Go.RowKit Go.Proofs.Ytemcmkhkbbjehaa Go.Proofs.Ytemcmkhkbbjehaa.Sh Go.Proofs.Ytemcmkhkbbjehaa.F

/-! ### class, and its document: what they compute -/
def clsOf (n : Int) : Int := if n < 1 then -1 else if 4096 < n then -1 else if n ≤ 16 then 0 else if n ≤ 24 then 1 else if n ≤ 32 then 2 else if n ≤ 48 then 3 else if n ≤ 64 then 4 else if n ≤ 96 then 5 else if n ≤ 128 then 6 else 7
def clsSize (c : Int) : Int := if c = 0 then 16 else if c = 1 then 24 else if c = 2 then 32 else if c = 3 then 48 else if c = 4 then 64 else if c = 5 then 96 else if c = 6 then 128 else 0
def clsSlots (c : Int) : Int := if c = 7 then 1 else if c = 0 then 16 else if c = 1 then 10 else if c = 2 then 8 else if c = 3 then 5 else if c = 4 then 4 else if c = 5 then 2 else if c = 6 then 2 else 0
def clsPages (n : Int) : Int := if clsOf n < 0 then 0 else if clsOf n < 7 then 1 else (n + 255) / 256

theorem clsOf_range (n : Int) : -1 ≤ clsOf n ∧ clsOf n ≤ 7 := by unfold clsOf; repeat' split <;> omega
theorem clsPages_range (n : Int) : 0 ≤ clsPages n ∧ clsPages n ≤ 16 := by
  unfold clsPages
  split
  · omega
  · split
    · omega
    · have : n ≤ 4096 ∧ 1 ≤ n := by
        rename_i h1 h2
        unfold clsOf at h1
        by_cases a : n < 1
        · rw [if_pos a] at h1; omega
        · rw [if_neg a] at h1
          by_cases b : 4096 < n
          · rw [if_pos b] at h1; omega
          · omega
      omega

theorem class_Of_c {n : Int} {K : Value → World → Prop} {w : World} (h : K (.int .i64 (clsOf n)) w) : CallsE Pg class_Of.N #[.int .i64 n] w K := by
  refine class_Of.ok ?_
  unfold clsOf at h
  have W : ∀ x : Int, 0 ≤ x → x ≤ 7 → IntKind.wrap .i64 (x - 1) = x - 1 := fun x a b => wrap64_in (by omega) (by omega)
  refine cond_dec (fun h1 => ?_) (fun h1 => ?_)
  · rw [if_pos h1] at h; exact h
  rw [if_neg h1] at h
  refine cond_dec (fun h2 => ?_) (fun h2 => ?_)
  · rw [if_pos h2] at h; exact h
  rw [if_neg h2] at h
  refine cond_dec (fun h3 => ?_) (fun h3 => ?_)
  · rw [if_pos h3] at h; exact h
  rw [if_neg h3] at h
  refine cond_dec (fun h3 => ?_) (fun h3 => ?_)
  · rw [if_pos h3] at h; exact h
  rw [if_neg h3] at h
  refine cond_dec (fun h3 => ?_) (fun h3 => ?_)
  · rw [if_pos h3] at h; exact h
  rw [if_neg h3] at h
  refine cond_dec (fun h3 => ?_) (fun h3 => ?_)
  · rw [if_pos h3] at h; exact h
  rw [if_neg h3] at h
  refine cond_dec (fun h3 => ?_) (fun h3 => ?_)
  · rw [if_pos h3] at h; exact h
  rw [if_neg h3] at h
  refine cond_dec (fun h3 => ?_) (fun h3 => ?_)
  · rw [if_pos h3] at h; exact h
  rw [if_neg h3] at h
  refine cond_dec (fun h3 => ?_) (fun h3 => ?_)
  · rw [if_pos h3] at h; exact h
  rw [if_neg h3] at h
  exact h

theorem class_Size_c {c : Int} {K : Value → World → Prop} {w : World} (h : K (.int .i64 (clsSize c)) w) : CallsE Pg class_Size.N #[.int .i64 c] w K := by
  refine class_Size.ok ?_
  refine cond_dec (fun h1 => ?_) (fun h1 => ?_)
  · have : clsSize c = 0 := by unfold clsSize; repeat' rw [if_neg (by omega)]
    rw [this] at h; exact h
  refine cond_dec (fun h2 => ?_) (fun h2 => ?_)
  · have : clsSize c = 0 := by unfold clsSize; repeat' rw [if_neg (by omega)]
    rw [this] at h; exact h
  have hc : c = 0 ∨ c = 1 ∨ c = 2 ∨ c = 3 ∨ c = 4 ∨ c = 5 ∨ c = 6 := by omega
  rcases hc with rfl | rfl | rfl | rfl | rfl | rfl | rfl <;>
    exact ⟨by decide, by decide, by decide, by first | exact ⟨by decide, h⟩ | exact h⟩

theorem ref06_Size_c {c : Int} {K : Value → World → Prop} {w : World} (h : K (.int .i64 (clsSize c)) w) : CallsE Pg ref06_Size.N #[.int .i64 c] w K := by
  refine ref06_Size.ok ?_
  refine cond_dec (fun h1 => ?_) (fun h1 => ?_)
  · have : clsSize c = 0 := by unfold clsSize; repeat' rw [if_neg (by omega)]
    rw [this] at h; exact h
  refine cond_dec (fun h2 => ?_) (fun h2 => ?_)
  · have : clsSize c = 0 := by unfold clsSize; repeat' rw [if_neg (by omega)]
    rw [this] at h; exact h
  have hc : c = 0 ∨ c = 1 ∨ c = 2 ∨ c = 3 ∨ c = 4 ∨ c = 5 ∨ c = 6 := by omega
  rcases hc with rfl | rfl | rfl | rfl | rfl | rfl | rfl <;> exact ⟨by decide, _, rfl, h⟩

theorem class_Slots_c {c : Int} {K : Value → World → Prop} {w : World} (h : K (.int .i64 (clsSlots c)) w) : CallsE Pg class_Slots.N #[.int .i64 c] w K := by
  refine class_Slots.ok ?_
  refine cond_eq (fun h1 => ?_) (fun h1 => ?_)
  · subst h1; exact h
  refine class_Size_c ⟨_, rfl, ?_⟩
  by_cases hc : c = 0 ∨ c = 1 ∨ c = 2 ∨ c = 3 ∨ c = 4 ∨ c = 5 ∨ c = 6
  · rcases hc with rfl | rfl | rfl | rfl | rfl | rfl | rfl <;> exact ⟨by decide, h⟩
  · have e1 : clsSize c = 0 := by unfold clsSize; repeat' rw [if_neg (by omega)]
    have e2 : clsSlots c = 0 := by unfold clsSlots; repeat' rw [if_neg (by omega)]
    rw [e1]
    rw [e2] at h
    exact h
theorem ref06_Slots_c {c : Int} {K : Value → World → Prop} {w : World} (h : K (.int .i64 (clsSlots c)) w) : CallsE Pg ref06_Slots.N #[.int .i64 c] w K := by
  refine ref06_Slots.ok ?_
  refine cond_eq (fun h1 => ?_) (fun h1 => ?_)
  · subst h1; exact h
  refine ref06_Size_c ⟨_, rfl, ?_⟩
  by_cases hc : c = 0 ∨ c = 1 ∨ c = 2 ∨ c = 3 ∨ c = 4 ∨ c = 5 ∨ c = 6
  · refine cond_eq (fun h2 => ?_) (fun h2 => ?_)
    · exact absurd h2 (by rcases hc with rfl | rfl | rfl | rfl | rfl | rfl | rfl <;> decide)
    refine ref06_Size_c ⟨_, rfl, h2, ?_⟩
    rcases hc with rfl | rfl | rfl | rfl | rfl | rfl | rfl <;> exact h
  · have e1 : clsSize c = 0 := by unfold clsSize; repeat' rw [if_neg (by omega)]
    have e2 : clsSlots c = 0 := by unfold clsSlots; repeat' rw [if_neg (by omega)]
    rw [e1]
    rw [e2] at h
    exact h
theorem clsOf_big {n : Int} (h : ¬ clsOf n < 0) : 1 ≤ n ∧ n ≤ 4096 := by
  unfold clsOf at h
  by_cases a : n < 1
  · rw [if_pos a] at h; omega
  · rw [if_neg a] at h
    by_cases b : 4096 < n
    · rw [if_pos b] at h; omega
    · omega
theorem class_Pages_c {n : Int} {K : Value → World → Prop} {w : World} (h : K (.int .i64 (clsPages n)) w) : CallsE Pg class_Pages.N #[.int .i64 n] w K := by
  refine class_Pages.ok (class_Of_c ⟨_, rfl, ?_⟩)
  unfold clsPages at h
  refine cond_dec (fun h1 => ?_) (fun h1 => ?_)
  · rw [if_pos h1] at h; exact h
  rw [if_neg h1] at h
  refine cond_dec (fun h2 => ?_) (fun h2 => ?_)
  · rw [if_pos h2] at h; exact h
  rw [if_neg h2] at h
  have hb := clsOf_big h1
  refine ⟨by decide, ?_⟩
  have e : IntKind.wrap .i64 (Int.tdiv (IntKind.wrap .i64 ((IntKind.wrap .i64 (n + (256 : Int))) - (1 : Int))) 256) = (n + 255) / 256 := by
    rw [wrap64_in (x := n + 256) (by omega) (by omega), wrap64_in (x := n + 256 - 1) (by omega) (by omega), Int.tdiv_eq_ediv_of_nonneg (by omega), wrap64_in (by omega) (by omega)]
    congr 1
    omega
  rw [e]
  exact h
theorem clsOf_le {n c : Int} (h1 : 1 ≤ n) (h2 : n ≤ 4096) (h3 : 0 ≤ c) (h4 : c ≤ 6) : n ≤ clsSize c ↔ clsOf n ≤ c := by
  have hcc : c = 0 ∨ c = 1 ∨ c = 2 ∨ c = 3 ∨ c = 4 ∨ c = 5 ∨ c = 6 := by omega
  have n1 : ¬ n < 1 := by omega
  have n2 : ¬ 4096 < n := by omega
  unfold clsOf
  rw [if_neg n1, if_neg n2]
  rcases hcc with rfl | rfl | rfl | rfl | rfl | rfl | rfl
  · show n ≤ 16 ↔ _
    repeat' split <;> omega
  · show n ≤ 24 ↔ _
    repeat' split <;> omega
  · show n ≤ 32 ↔ _
    repeat' split <;> omega
  · show n ≤ 48 ↔ _
    repeat' split <;> omega
  · show n ≤ 64 ↔ _
    repeat' split <;> omega
  · show n ≤ 96 ↔ _
    repeat' split <;> omega
  · show n ≤ 128 ↔ _
    repeat' split <;> omega
/-- The document's loop over the classes. -/
theorem ref06_Of_loop {n : Int} (h1 : 1 ≤ n) (h2 : n ≤ 4096) {K : Value → World → Prop} {w : World} (h : K (.int .i64 (clsOf n)) w) : ∀ (d : Nat) (c : Int), 0 ≤ c → c + d = 7 → c ≤ clsOf n → ref06_Of.l0 K (d + 1) n c w := by
  intro d
  induction d with
  | zero =>
    intro c h0 h7 hc
    rw [ref06_Of.l0_succ]
    refine cond_dec (fun h3 => by omega) (fun h3 => ?_)
    have : clsOf n = 7 := by have := clsOf_range n; omega
    rw [this] at h
    exact h
  | succ d ih =>
    intro c h0 h7 hc
    rw [ref06_Of.l0_succ]
    refine cond_dec (fun h3 => ?_) (fun h3 => by omega)
    refine ref06_Size_c ⟨_, rfl, ?_⟩
    have W : IntKind.wrap .i64 (c + 1) = c + 1 := wrap64_in (by omega) (by omega)
    have kk := clsOf_le h1 h2 h0 (show c ≤ 6 by omega)
    have key : (n ≤ clsSize c → clsOf n = c) ∧ (¬ n ≤ clsSize c → c + 1 ≤ clsOf n) := ⟨fun h => by have := kk.1 h; omega, fun h => by have : ¬ clsOf n ≤ c := fun e => h (kk.2 e); omega⟩
    refine cond_dec (fun h4 => ?_) (fun h4 => ?_)
    · rw [key.1 h4] at h; exact h
    · rw [W]; exact ih (c + 1) (by omega) (by omega) (key.2 h4)
theorem ref06_Of_c {n : Int} {K : Value → World → Prop} {w : World} (h : K (.int .i64 (clsOf n)) w) : CallsE Pg ref06_Of.N #[.int .i64 n] w K := by
  refine ref06_Of.ok ?_
  refine cond_dec (fun h1 => ?_) (fun h1 => ?_)
  · have : clsOf n = -1 := by unfold clsOf; rw [if_pos h1]
    rw [this] at h; exact h
  refine cond_dec (fun h2 => ?_) (fun h2 => ?_)
  · have : clsOf n = -1 := by unfold clsOf; rw [if_neg h1, if_pos h2]
    rw [this] at h; exact h
  refine ⟨8, ref06_Of_loop (by omega) (by omega) h 7 0 (by omega) (by omega) ?_⟩
  unfold clsOf
  rw [if_neg h1, if_neg h2]
  repeat' split <;> omega
theorem ref06_Pages_c {n : Int} {K : Value → World → Prop} {w : World} (h : K (.int .i64 (clsPages n)) w) : CallsE Pg ref06_Pages.N #[.int .i64 n] w K := by
  refine ref06_Pages.ok (ref06_Of_c ⟨_, rfl, ?_⟩)
  unfold clsPages at h
  refine cond_dec (fun h1 => ?_) (fun h1 => ?_)
  · rw [if_pos h1] at h; exact h
  rw [if_neg h1] at h
  refine ref06_Of_c ⟨_, rfl, ?_⟩
  refine cond_dec (fun h2 => ?_) (fun h2 => ?_)
  · rw [if_pos h2] at h; exact h
  rw [if_neg h2] at h
  have hb := clsOf_big h1
  refine ⟨by decide, ?_⟩
  have e : IntKind.wrap .i64 (Int.tdiv (IntKind.wrap .i64 (n + (255 : Int))) 256) = (n + 255) / 256 := by
    rw [wrap64_in (x := n + 255) (by omega) (by omega), Int.tdiv_eq_ediv_of_nonneg (by omega), wrap64_in (by omega) (by omega)]
  rw [e]
  exact h
/-! ### Need -/
def nums (k : IntKind) (xs : List Int) : List Value := xs.map fun x => .int k x
theorem nums_len (k : IntKind) (xs : List Int) : (nums k xs).length = xs.length := by simp [nums]
theorem nums_at {k : IntKind} {xs : List Int} {j : Nat} {x : Int} (h : xs[j]? = some x) : (nums k xs)[j]? = some (.int k x) := by simp [nums, h]
theorem map_set {f f' : Nat → Value} {n j : Nat} (hj : j < n) (h : ∀ i, i ≠ j → f' i = f i) : ((List.range n).map f).set j (f' j) = (List.range n).map f' := by
  apply List.ext_getElem
  · simp
  · intro i h1 h2
    rw [List.getElem_set]
    split
    · rename_i e; subst e; simp
    · rename_i e; simp; exact (h i (fun e' => e e'.symm)).symm
theorem take_snoc {α : Type} {xs : List α} {k : Nat} {x : α} (h : xs[k]? = some x) : xs.take (k + 1) = xs.take k ++ [x] := by
  obtain ⟨hk, rfl⟩ := List.getElem?_eq_some_iff.1 h
  rw [List.take_succ_eq_append_getElem hk]
def cntN (c : Int) (xs : List Int) : Nat := xs.countP fun x => clsOf x == c
def big (xs : List Int) : Int := (xs.map fun x => if clsOf x = 7 then clsPages x else 0).sum
def up (n s : Int) : Int := (n + s - 1) / s
def needTo (xs : List Int) (pages : Int) : Nat → Int
  | 0 => pages
  | c + 1 => needTo xs pages c + up (cntN c xs) (clsSlots c)
def clsNeed (xs : List Int) : Int := needTo xs (big xs) 7
theorem cntN_snoc (c : Int) (xs : List Int) (x : Int) : cntN c (xs ++ [x]) = cntN c xs + if clsOf x = c then 1 else 0 := by
  unfold cntN
  rw [List.countP_append]
  by_cases h : clsOf x = c <;> simp [h]
theorem cntN_le (c : Int) (xs : List Int) : cntN c xs ≤ xs.length := List.countP_le_length
theorem sum_app (l : List Int) (x : Int) : (l ++ [x]).sum = l.sum + x := by simp
theorem big_snoc (xs : List Int) (x : Int) : big (xs ++ [x]) = big xs + if clsOf x = 7 then clsPages x else 0 := by
  unfold big
  rw [List.map_append, List.map_singleton, sum_app]
theorem big_range (xs : List Int) : 0 ≤ big xs ∧ big xs ≤ 16 * xs.length := by
  induction xs with
  | nil => simp [big]
  | cons x xs ih =>
    unfold big at ih ⊢
    simp only [List.map_cons, List.sum_cons, List.length_cons]
    have := clsPages_range x
    split <;> omega
theorem slots_range {c : Nat} (h : c < 7) : 1 ≤ clsSlots c ∧ clsSlots c ≤ 16 := by
  have : c = 0 ∨ c = 1 ∨ c = 2 ∨ c = 3 ∨ c = 4 ∨ c = 5 ∨ c = 6 := by omega
  rcases this with rfl | rfl | rfl | rfl | rfl | rfl | rfl <;> decide
theorem up_range {n s : Int} (h0 : 0 ≤ n) (h1 : 1 ≤ s) : 0 ≤ up n s ∧ up n s ≤ n := by
  unfold up
  constructor
  · exact Int.ediv_nonneg (by omega) (by omega)
  · rcases Int.lt_or_le 0 n with h | h
    · have : (n + s - 1) < (n + 1) * s := by
        have : n * 1 ≤ n * s := Int.mul_le_mul_of_nonneg_left h1 h0
        rw [Int.add_mul]; omega
      have := Int.ediv_lt_of_lt_mul (by omega) this
      omega
    · have : n = 0 := by omega
      subst this
      have : (0 + s - 1) / s < 1 := Int.ediv_lt_of_lt_mul (by omega) (by omega)
      omega
theorem needTo_range (xs : List Int) (p : Int) (hp : 0 ≤ p) : ∀ c, c ≤ 7 → p ≤ needTo xs p c ∧ needTo xs p c ≤ p + c * xs.length := by
  intro c
  induction c with
  | zero => intro _; simp [needTo]
  | succ c ih =>
    intro hc
    have := ih (by omega)
    have hs := slots_range (show c < 7 by omega)
    have := up_range (n := (cntN c xs : Int)) (s := clsSlots c) (by omega) hs.1
    have hl := cntN_le c xs
    simp only [needTo]
    constructor
    · omega
    · have e : ((c + 1 : Nat) : Int) * xs.length = c * xs.length + xs.length := by rw [Int.natCast_add, Int.add_mul]; simp
      rw [e]; omega
def cnts (xs : List Int) : List Value := (List.range 7).map fun c : Nat => Value.int .i64 (cntN c xs : Int)

theorem need_up {n s : Int} (h0 : 0 ≤ n) (h1 : 1 ≤ s) (h2 : s ≤ 16) (h3 : n ≤ 100000000000000) :
    IntKind.wrap .i64 (Int.tdiv (IntKind.wrap .i64 ((IntKind.wrap .i64 (n + s)) - (1 : Int))) s) = up n s := by
  have hu := up_range h0 h1
  rw [wrap64_in (x := n + s) (by omega) (by omega), wrap64_in (x := n + s - 1) (by omega) (by omega), Int.tdiv_eq_ediv_of_nonneg (by omega)]
  exact wrap64_in (by unfold up at hu; omega) (by unfold up at hu; omega)

theorem class_Need_loop2 {xs : List Int} {K : Value → World → Prop} {w : World} (hl : xs.length ≤ 100000000000000) (hK : K (.int .i64 (clsNeed xs)) w) : ∀ (d c : Nat), c + d = 7 →
    class_Need.l1 K (d + 1) (needTo xs (big xs) c) (cntN 0 xs) (cntN 1 xs) (cntN 2 xs) (cntN 3 xs) (cntN 4 xs) (cntN 5 xs) (cntN 6 xs) c w := by
  intro d
  induction d with
  | zero =>
    intro c hc
    obtain rfl : c = 7 := by omega
    rw [class_Need.l1_succ]
    exact cond_dec (fun h => by omega) (fun _ => hK)
  | succ d ih =>
    intro c hc
    rw [class_Need.l1_succ]
    refine cond_dec (fun _ => ?_) (fun h => absurd h (by omega))
    have hs := slots_range (show c < 7 by omega)
    have hb := big_range xs
    have hn := needTo_range xs (big xs) hb.1 c (by omega)
    have hn1 := needTo_range xs (big xs) hb.1 (c + 1) (by omega)
    refine ⟨⟨by omega, by omega⟩, (cntN c xs : Int), ?_, class_Slots_c ⟨_, rfl, class_Slots_c ⟨_, rfl, by omega, ?_⟩⟩⟩
    · have : c = 0 ∨ c = 1 ∨ c = 2 ∨ c = 3 ∨ c = 4 ∨ c = 5 ∨ c = 6 := by omega
      rcases this with rfl | rfl | rfl | rfl | rfl | rfl | rfl <;> rfl
    · have hcn := cntN_le c xs
      rw [need_up (by omega) hs.1 hs.2 (by omega), wrap64_in (x := (c : Int) + 1) (by omega) (by omega)]
      have e : IntKind.wrap .i64 (needTo xs (big xs) c + up (cntN c xs) (clsSlots c)) = needTo xs (big xs) (c + 1) := by
        have e1 : needTo xs (big xs) c + up (cntN c xs) (clsSlots c) = needTo xs (big xs) (c + 1) := rfl
        rw [e1]
        have h7 : ((c + 1 : Nat) : Int) * xs.length ≤ 7 * xs.length := Int.mul_le_mul_of_nonneg_right (by omega) (by omega)
        exact wrap64_in (by omega) (by omega)
      rw [e]
      exact ih (c + 1) (by omega)

theorem class_Need_loop1 {w0 : World} {A : Option Addr} {xs : List Int} {cap g : Nat} {K : Value → World → Prop} (hx : Cs w0 A (nums .i64 xs)) (hl : xs.length ≤ 100000000000000) (hg : w0.heap.size ≤ g)
    (hK : ∀ w, Below w0.heap.size w0 w → K (.int .i64 (clsNeed xs)) w) : ∀ (d k : Nat) (w : World), k + d = xs.length → Below w0.heap.size w0 w → Blk w g Ty.a7_int (cnts (xs.take k)) →
    class_Need.l0 K (d + 1) ⟨g, 0, none⟩ (big (xs.take k)) A xs.length cap xs.length k w := by
  intro d
  induction d with
  | zero =>
    intro k w hk hb hB
    rw [class_Need.l0_succ]
    refine cond_dec (fun h => by omega) (fun _ => ?_)
    rw [List.take_of_length_le (by omega)] at hB ⊢
    refine ⟨_, hB.cell' rfl, _, hB.cell' rfl, _, hB.cell' rfl, _, hB.cell' rfl, _, hB.cell' rfl, _, hB.cell' rfl, _, hB.cell' rfl, 8, ?_⟩
    exact class_Need_loop2 hl (hK w hb) 7 0 rfl
  | succ d ih =>
    intro k w hk hb hB
    rw [class_Need.l0_succ]
    refine cond_dec (fun _ => ?_) (fun h => absurd h (by omega))
    have hlt : k < xs.length := by omega
    have hxk : xs[k]? = some xs[k] := List.getElem?_eq_getElem hlt
    obtain ⟨a, rfl, hc⟩ := (hx.below hb).at (nums_at hxk)
    refine ⟨⟨by omega, by omega⟩, a, rfl, xs[k], hc, class_Of_c ⟨_, rfl, ?_⟩⟩
    have hr := clsOf_range xs[k]
    have hts := take_snoc hxk
    have hbr := big_range (xs.take k)
    have hbr1 := big_range (xs.take (k + 1))
    have hkl : (xs.take (k + 1)).length ≤ 100000000000000 := by rw [List.length_take]; omega
    have W : IntKind.wrap .i64 ((k : Int) + 1) = ((k + 1 : Nat) : Int) := by rw [wrap64_in (by omega) (by omega)]; rfl
    have large : ¬ (0 ≤ clsOf xs[k] ∧ clsOf xs[k] < 7) → CallsE Pg class_Pages.N #[.int .i64 xs[k]] w (fun v9 w10 => ∃ (n11 : Int), v9 = .int .i64 n11 ∧ class_Need.p9 (class_Need.l0 K (d + 1)) K ⟨g, 0, none⟩ (IntKind.wrap .i64 (big (xs.take k) + n11)) (some a) xs.length cap xs.length k w10) := by
      intro hn
      refine class_Pages_c ⟨_, rfl, ?_⟩
      have e : big (xs.take k) + clsPages xs[k] = big (xs.take (k + 1)) := by
        rw [hts, big_snoc]
        congr 1
        split
        · rfl
        · have : clsOf xs[k] = -1 := by omega
          unfold clsPages
          rw [if_pos (by omega)]
      show class_Need.l0 K (d + 1) _ _ _ _ _ _ (IntKind.wrap .i64 ((k : Int) + 1)) w
      rw [W, e, wrap64_in (x := big (xs.take (k + 1))) (by omega) (by omega)]
      refine ih (k + 1) w (by omega) hb ?_
      have : cnts (xs.take (k + 1)) = cnts (xs.take k) := by
        rw [hts]
        unfold cnts
        apply List.map_congr_left
        intro c hc
        rw [cntN_snoc, if_neg (by have := List.mem_range.1 hc; omega)]
        simp
      rw [this]; exact hB
    refine cond_dec (fun h0 => ?_) (fun h0 => ?_)
    · refine cond_dec (fun h7 => ?_) (fun h7 => large (by omega))
      obtain ⟨j, hj⟩ : ∃ j : Nat, clsOf xs[k] = j := ⟨(clsOf xs[k]).toNat, by omega⟩
      rw [hj] at h7 ⊢
      have hj7 : j < 7 := by omega
      have hcell : (cnts (xs.take k))[j]? = some (.int .i64 (cntN j (xs.take k) : Int)) := by simp [cnts, hj7]
      have hlen : (cnts (xs.take k)).length = 7 := by simp [cnts]
      have e0 : (⟨g, 0, none⟩ : Addr).add (j : Int).toNat = ⟨g, j, none⟩ := by rw [add_at]; simp
      rw [e0]
      refine ⟨⟨by omega, by omega⟩, _, hB.cell' hcell, ⟨by omega, by omega⟩, hB.canStore (by omega), ?_⟩
      show class_Need.l0 K (d + 1) _ _ _ _ _ _ (IntKind.wrap .i64 ((k : Int) + 1)) _
      have hcn := cntN_le j (xs.take k)
      have hkl' : (xs.take k).length ≤ 100000000000000 := by rw [List.length_take]; omega
      rw [W, wrap64_in (x := (cntN j (xs.take k) : Int) + 1) (by omega) (by omega)]
      have e1 : big (xs.take k) = big (xs.take (k + 1)) := by rw [hts, big_snoc, if_neg (by omega)]; omega
      rw [e1]
      refine ih (k + 1) _ (by omega) (hb.setCell hg _) ?_
      have hset := hB.set j (.int .i64 ((cntN j (xs.take k) : Int) + 1))
      have e2 : (cnts (xs.take k)).set j (.int .i64 ((cntN j (xs.take k) : Int) + 1)) = cnts (xs.take (k + 1)) := by
        have hv : Value.int .i64 ((cntN j (xs.take k) : Int) + 1) = (fun c : Nat => Value.int .i64 (cntN c (xs.take (k + 1)) : Int)) j := by
          simp only
          rw [hts, cntN_snoc, if_pos hj]
          simp
        unfold cnts
        rw [hv]
        refine map_set (f := fun c : Nat => Value.int .i64 (cntN c (xs.take k) : Int)) (f' := fun c : Nat => Value.int .i64 (cntN c (xs.take (k + 1)) : Int)) hj7 (fun i hi => ?_)
        rw [hts, cntN_snoc, if_neg (by omega)]
        simp
      rw [← e2]
      exact hset
    · exact large (by omega)
theorem class_Need_c {A : Option Addr} {xs : List Int} {n cap : Nat} {K : Value → World → Prop} {w : World} (hn : n = xs.length) (hx : Cs w A (nums .i64 xs)) (hl : xs.length ≤ 100000000000000)
    (hK : ∀ w', Below w.heap.size w w' → K (.int .i64 (clsNeed xs)) w') : CallsE Pg class_Need.N #[.slice A n cap] w K := by
  subst hn
  refine class_Need.ok (wlet_intro fun w1 h1 => ?_)
  subst h1
  refine ⟨xs.length + 1, ?_⟩
  exact class_Need_loop1 (g := w.heap.size) hx hl (Nat.le_refl _) hK xs.length 0 _ (by omega) ((Below.refl _ _).alloc (Nat.le_refl _) _) (Blk.new w _ _)

/-! the document's -/
theorem ref06_Need_loop3 {A : Option Addr} {xs : List Int} {cap : Nat} {K : Value → World → Prop} {w : World} (hx : Cs w A (nums .i64 xs)) (hl : xs.length ≤ 100000000000000) (p : Int) (hp0 : 0 ≤ p) (hp : p ≤ 700000000000000)
    (hK : K (.int .i64 (p + big xs)) w) : ∀ (d k : Nat), k + d = xs.length → ref06_Need.l2 K (d + 1) A xs.length cap (p + big (xs.take k)) xs.length k w := by
  intro d
  induction d with
  | zero =>
    intro k hk
    rw [ref06_Need.l2_succ]
    refine cond_dec (fun h => by omega) (fun _ => ?_)
    rw [List.take_of_length_le (by omega)]
    exact hK
  | succ d ih =>
    intro k hk
    rw [ref06_Need.l2_succ]
    refine cond_dec (fun _ => ?_) (fun h => absurd h (by omega))
    have hlt : k < xs.length := by omega
    have hxk : xs[k]? = some xs[k] := List.getElem?_eq_getElem hlt
    obtain ⟨a, rfl, hc⟩ := hx.at (nums_at hxk)
    have hts := take_snoc hxk
    have hbr1 := big_range (xs.take (k + 1))
    have hbr := big_range (xs.take k)
    have hkl : (xs.take (k + 1)).length ≤ 100000000000000 := by rw [List.length_take]; omega
    have W : IntKind.wrap .i64 ((k : Int) + 1) = ((k + 1 : Nat) : Int) := by rw [wrap64_in (by omega) (by omega)]; rfl
    refine ⟨⟨by omega, by omega⟩, a, rfl, xs[k], hc, ref06_Of_c ⟨_, rfl, ?_⟩⟩
    refine cond_eq (fun h7 => ?_) (fun h7 => ?_)
    · refine ⟨⟨by omega, by omega⟩, a, rfl, xs[k], hc, ref06_Pages_c ⟨_, rfl, ?_⟩⟩
      have e : p + big (xs.take k) + clsPages xs[k] = p + big (xs.take (k + 1)) := by rw [hts, big_snoc, if_pos h7]; omega
      show ref06_Need.l2 K (d + 1) _ _ _ _ _ (IntKind.wrap .i64 ((k : Int) + 1)) w
      rw [W, e, wrap64_in (x := p + big (xs.take (k + 1))) (by omega) (by omega)]
      exact ih (k + 1) (by omega)
    · have e : p + big (xs.take k) = p + big (xs.take (k + 1)) := by rw [hts, big_snoc, if_neg h7]; omega
      show ref06_Need.l2 K (d + 1) _ _ _ _ _ (IntKind.wrap .i64 ((k : Int) + 1)) w
      rw [W, e]
      exact ih (k + 1) (by omega)
theorem ref06_Need_loop1 {L0 : Option Addr → Nat → Nat → Int → Int → World → Prop} {A : Option Addr} {xs : List Int} {cap : Nat} {K : Value → World → Prop} {w : World} (hx : Cs w A (nums .i64 xs)) (hl : xs.length ≤ 100000000000000) (p : Int) (c : Nat) (hc7 : c < 7)
    (hK : L0 A xs.length cap (IntKind.wrap .i64 (p + up (cntN c xs) (clsSlots c))) (IntKind.wrap .i64 ((c : Int) + 1)) w) : ∀ (d k : Nat), k + d = xs.length → ref06_Need.l1 L0 K (d + 1) A xs.length cap p c (cntN c (xs.take k)) xs.length k w := by
  intro d
  induction d with
  | zero =>
    intro k hk
    rw [ref06_Need.l1_succ]
    refine cond_dec (fun h => by omega) (fun _ => ?_)
    rw [List.take_of_length_le (by omega)]
    have hs := slots_range hc7
    have hcn := cntN_le c xs
    refine ref06_Slots_c ⟨_, rfl, ref06_Slots_c ⟨_, rfl, by omega, ?_⟩⟩
    rw [need_up (by omega) hs.1 hs.2 (by omega)]
    exact hK
  | succ d ih =>
    intro k hk
    rw [ref06_Need.l1_succ]
    refine cond_dec (fun _ => ?_) (fun h => absurd h (by omega))
    have hlt : k < xs.length := by omega
    have hxk : xs[k]? = some xs[k] := List.getElem?_eq_getElem hlt
    obtain ⟨a, rfl, hc⟩ := hx.at (nums_at hxk)
    have hts := take_snoc hxk
    have hcn := cntN_le c (xs.take k)
    have hkl' : (xs.take k).length ≤ 100000000000000 := by rw [List.length_take]; omega
    have W : IntKind.wrap .i64 ((k : Int) + 1) = ((k + 1 : Nat) : Int) := by rw [wrap64_in (by omega) (by omega)]; rfl
    refine ⟨⟨by omega, by omega⟩, a, rfl, xs[k], hc, ref06_Of_c ⟨_, rfl, ?_⟩⟩
    refine cond_eq (fun h7 => ?_) (fun h7 => ?_)
    · show ref06_Need.l1 L0 K (d + 1) _ _ _ _ _ (IntKind.wrap .i64 ((cntN c (xs.take k) : Int) + 1)) _ (IntKind.wrap .i64 ((k : Int) + 1)) w
      rw [W, wrap64_in (x := (cntN c (xs.take k) : Int) + 1) (by omega) (by omega)]
      have e : (cntN c (xs.take k) : Int) + 1 = (cntN c (xs.take (k + 1)) : Int) := by rw [hts, cntN_snoc, if_pos h7]; simp
      rw [e]
      exact ih (k + 1) (by omega)
    · show ref06_Need.l1 L0 K (d + 1) _ _ _ _ _ _ _ (IntKind.wrap .i64 ((k : Int) + 1)) w
      rw [W]
      have e : (cntN c (xs.take k) : Int) = (cntN c (xs.take (k + 1)) : Int) := by rw [hts, cntN_snoc, if_neg h7]; simp
      rw [e]
      exact ih (k + 1) (by omega)
theorem needTo_add (xs : List Int) (p : Int) : ∀ c, needTo xs p c = needTo xs 0 c + p
  | 0 => by simp [needTo]
  | c + 1 => by simp only [needTo]; rw [needTo_add xs p c]; omega
theorem ref06_Need_loop0 {A : Option Addr} {xs : List Int} {cap : Nat} {K : Value → World → Prop} {w : World} (hx : Cs w A (nums .i64 xs)) (hl : xs.length ≤ 100000000000000) (hK : K (.int .i64 (clsNeed xs)) w) : ∀ (d c : Nat), c + d = 7 →
    ref06_Need.l0 K (d + 1) A xs.length cap (needTo xs 0 c) c w := by
  intro d
  induction d with
  | zero =>
    intro c hc
    obtain rfl : c = 7 := by omega
    rw [ref06_Need.l0_succ]
    refine cond_dec (fun h => by omega) (fun _ => ?_)
    refine ⟨xs.length + 1, ?_⟩
    have hn := needTo_range xs 0 (by omega) 7 (by omega)
    have := ref06_Need_loop3 (cap := cap) hx hl (needTo xs 0 7) hn.1 (by omega) (by
      unfold clsNeed at hK
      rw [needTo_add] at hK
      exact hK) xs.length 0 (by omega)
    simpa [big] using this
  | succ d ih =>
    intro c hc
    rw [ref06_Need.l0_succ]
    refine cond_dec (fun _ => ?_) (fun h => absurd h (by omega))
    refine ⟨xs.length + 1, ?_⟩
    have hn1 := needTo_range xs 0 (by omega) (c + 1) (by omega)
    have h7 : ((c + 1 : Nat) : Int) * xs.length ≤ 7 * xs.length := Int.mul_le_mul_of_nonneg_right (by omega) (by omega)
    have e1 : needTo xs 0 c + up (cntN c xs) (clsSlots c) = needTo xs 0 (c + 1) := rfl
    have W : IntKind.wrap .i64 ((c : Int) + 1) = ((c + 1 : Nat) : Int) := by rw [wrap64_in (by omega) (by omega)]; rfl
    exact ref06_Need_loop1 (L0 := ref06_Need.l0 K (d + 1)) hx hl (needTo xs 0 c) c (by omega) (by
      rw [e1, W, wrap64_in (x := needTo xs 0 (c + 1)) (by omega) (by omega)]
      exact ih (c + 1) (by omega)) xs.length 0 (by omega)
theorem ref06_Need_c {A : Option Addr} {xs : List Int} {n cap : Nat} {K : Value → World → Prop} {w : World} (hn : n = xs.length) (hx : Cs w A (nums .i64 xs)) (hl : xs.length ≤ 100000000000000)
    (hK : K (.int .i64 (clsNeed xs)) w) : CallsE Pg ref06_Need.N #[.slice A n cap] w K := by
  subst hn
  exact ref06_Need.ok ⟨8, ref06_Need_loop0 hx hl hK 7 0 rfl⟩
/-! ### rows of the call's own, of whole numbers -/
theorem condP_nt {p q : Prop} (h : q) : condP (!true) p q := h
theorem condP_t {p q : Prop} (h : p) : condP true p q := h
theorem condP_f {p q : Prop} (h : q) : condP false p q := h
theorem own_below {w w' : World} {base : Nat} {e : TypeId} {size n : Nat} {v : Value} {xs : List Value} (h : w.ownsRow base e size v n xs) (g : w.grownBy w' v.ownBlock) (hb : base ≤ w.heap.size) : Below base w w' := by
  refine (Kp.of_grown g).below hb fun i hi hs => ?_
  rcases h.2 with ⟨rfl, _⟩ | ⟨g0, cap, cur, rfl, hbg, _⟩
  · simp [Value.ownBlock] at hs
  · simp [Value.ownBlock] at hs; omega
theorem own_new (w : World) (e : TypeId) {base : Nat} (hb : base ≤ w.heap.size) (cs : List Value) (hm : cs.length ≤ maxLen) {n : Nat} (hn : n = cs.length) : (w.alloc (.cells ⟨cs⟩ e)).ownsRow base e 1 (.slice (some ⟨w.heap.size, 0, none⟩) n n) n cs := by
  subst hn
  have := own_of_blk (size := 1) (n := cs.length) (c := cs.length) (Blk.new w e cs) hb (by omega) (Nat.le_refl _) hm
  simpa using this
theorem app_ints {w : World} {base : Nat} {v : Value} {n : Nat} {xs : List Int} (hown : w.ownsRow base Ty.int 1 v n (nums .i64 xs)) {B : Option Addr} {m c : Nat} {ys : List Int} (hl : m = ys.length) (hy : Cs w B (nums .i64 ys)) (h63 : n + m ≤ 1000000000) (hb : base ≤ w.heap.size) {K : Value → World → Prop}
    (h : ∀ A' c' w', w'.ownsRow base Ty.int 1 (.slice A' (n + m) c') (n + m) (nums .i64 (xs ++ ys)) → Below base w w' → K (.slice A' (n + m) c') w') : SemJ Pg (Builtin.append_ #[Ty.sl_int, Ty.sl_int] Ty.sl_int #[v, .slice B m c]) K w := by
  have hI : (Pg.info? Ty.int).map (fun i => (i.zero, i.size, i.bytes)) = some (some (.int .i64 0), 1, 8) := by kernel_rfl
  obtain ⟨i, hi, he⟩ := Option.map_eq_some_iff.1 hI
  simp only [Prod.mk.injEq] at he
  obtain ⟨e1, e2, e3⟩ := he
  have hu : Pg.underlying Ty.sl_int = some (.slice Ty.int) := by kernel_rfl
  refine append_own (P := Pg) base hu hi e1 e2 e3 rfl (by decide) hown (by simp [nums, hl]) hy ?_ ?_ ?_ hb ?_
  · intro u hu
    obtain ⟨x, _, rfl⟩ := List.mem_map.1 hu
    rfl
  · show n + m ≤ maxLen
    unfold maxLen; omega
  · omega
  · intro A' c' w' ho hg
    exact h A' c' w' (by simpa [nums] using ho) (own_below hown hg hb)
/-! ### the laws of layer 6 -/
theorem law06_alive_c {K : Value → World → Prop} {w : World} (h : ∀ w', Below w.heap.size w w' → K (.bool true) w') : CallsE Pg law06_alive.N #[] w K := by
  refine law06_alive.ok (class_Of_c ⟨_, rfl, cond_eq (fun _ => ?_) (fun h => absurd (by decide) h)⟩)
  refine class_Of_c ⟨_, rfl, cond_eq (fun _ => ?_) (fun h => absurd (by decide) h)⟩
  refine class_Slots_c ⟨_, rfl, cond_eq (fun _ => ?_) (fun h => absurd (by decide) h)⟩
  refine class_Pages_c ⟨_, rfl, cond_eq (fun _ => ?_) (fun h => absurd (by decide) h)⟩
  refine wlet_intro fun w1 h1 => ?_
  subst h1
  refine class_Need_c (xs := [24, 300]) rfl (Cs.of_blk0 (Blk.new w _ _)) (by decide) fun w' hb => ⟨_, rfl, ?_⟩
  exact h w' (((Below.refl _ w).alloc (Nat.le_refl _) _).trans (hb.mono (by simp)))
theorem law_ClassOf (w : World) (n : Int) (hn : (Lit.int .i64 n).wf = true) : CallsE Pg law06_ClassOf.N #[.int .i64 n] w (fun v w' => v = .bool true ∧ Below w.heap.size w w') := by
  refine law06_ClassOf.ok (law06_alive_c fun w' hb => ⟨_, rfl, ?_⟩)
  refine class_Of_c ⟨_, rfl, ref06_Of_c ⟨_, rfl, ?_⟩⟩
  exact ⟨by simp, hb⟩
theorem law_ClassTells (w : World) (c : Int) (hc : (Lit.int .i64 c).wf = true) (n : Int) (hn : (Lit.int .i64 n).wf = true) : CallsE Pg law06_ClassTells.N #[.int .i64 c, .int .i64 n] w (fun v w' => v = .bool true ∧ Below w.heap.size w w') := by
  refine law06_ClassTells.ok (law06_alive_c fun w' hb => ⟨_, rfl, ?_⟩)
  refine class_Size_c ⟨_, rfl, ref06_Size_c ⟨_, rfl, cond_eq (fun _ => ?_) (fun h => absurd rfl h)⟩⟩
  refine class_Slots_c ⟨_, rfl, ref06_Slots_c ⟨_, rfl, cond_eq (fun _ => ?_) (fun h => absurd rfl h)⟩⟩
  refine class_Pages_c ⟨_, rfl, ref06_Pages_c ⟨_, rfl, ?_⟩⟩
  exact ⟨by simp, hb⟩

theorem law_ClassFits (w : World) (n : Int) (hn : (Lit.int .i64 n).wf = true) : CallsE Pg law06_ClassFits.N #[.int .i64 n] w (fun v w' => v = .bool true ∧ Below w.heap.size w w') := by
  refine law06_ClassFits.ok (law06_alive_c fun w' hb => ⟨_, rfl, ?_⟩)
  refine class_Of_c ⟨_, rfl, ?_⟩
  have out : (n < 1 ∨ 4096 < n) → law06_ClassFits.p3 (fun v w' => v = .bool true ∧ Below w.heap.size w w') n (clsOf n) true w' := by
    intro h
    have e : clsOf n = -1 := by unfold clsOf; rcases h with h | h <;> (repeat' split) <;> omega
    have e2 : clsPages n = 0 := by unfold clsPages; rw [if_pos (by omega)]
    refine cond_eq (fun _ => ?_) (fun h => absurd e h)
    refine class_Pages_c ⟨_, rfl, by rw [e2]; rfl, hb⟩
  refine cond_dec (fun h => out (.inl h)) (fun h1 => ?_)
  by_cases h2 : 4096 < n
  · rw [decide_eq_true h2]; exact out (.inr h2)
  rw [decide_eq_false h2]
  show law06_ClassFits.p5 _ n (clsOf n) w'
  by_cases h7 : clsOf n = 7
  · rw [h7]
    have hn : 128 < n := by
      unfold clsOf at h7
      repeat' split at h7
      all_goals omega
    have hp : clsPages n = (n + 255) / 256 := by unfold clsPages; rw [if_neg (by omega), if_neg (by omega)]
    refine class_Size_c ⟨_, rfl, cond_dec (fun _ => ?_) (fun h => absurd hn h)⟩
    have hr := clsPages_range n
    refine class_Pages_c ⟨_, rfl, cond_dec (fun _ => ?_) (fun h => absurd ?_ h)⟩
    · refine class_Pages_c ⟨_, rfl, ?_, hb⟩
      rw [wrap64_in (x := clsPages n - 1) (by omega) (by omega), wrap64_in (by omega) (by omega), decide_eq_true (by omega)]
    · rw [wrap64_in (by omega) (by omega)]; omega
  · show condP (clsOf n == 7) _ _
    refine cond_eq (fun h => absurd h h7) (fun _ => ?_)
    have hr := clsOf_range n
    have hr0 : 0 ≤ clsOf n := by unfold clsOf; (repeat' split) <;> omega
    refine cond_dec (fun _ => ?_) (fun h => absurd hr0 h)
    refine cond_dec (fun _ => ?_) (fun h => absurd (by omega) h)
    have hle : n ≤ clsSize (clsOf n) := (clsOf_le (by omega) (by omega) hr0 (by omega)).2 (Int.le_refl _)
    refine class_Size_c ⟨_, rfl, cond_dec (fun _ => ?_) (fun h => absurd hle h)⟩
    have hsz : 0 ≤ clsSize (clsOf n) ∧ clsSize (clsOf n) ≤ 128 ∧ clsSlots (clsOf n) * clsSize (clsOf n) ≤ 256 ∧ 0 ≤ clsSlots (clsOf n) * clsSize (clsOf n) := by
      have : clsOf n = 0 ∨ clsOf n = 1 ∨ clsOf n = 2 ∨ clsOf n = 3 ∨ clsOf n = 4 ∨ clsOf n = 5 ∨ clsOf n = 6 := by omega
      rcases this with h | h | h | h | h | h | h <;> rw [h] <;> decide
    have last : ∀ w', Below w.heap.size w w' → CallsE Pg class_Slots.N #[.int .i64 (clsOf n)] w' (fun v22 w23 => ∃ (n24 : Int), v22 = .int .i64 n24 ∧ CallsE Pg class_Size.N #[.int .i64 (clsOf n)] w23 (fun v25 w26 => ∃ (n27 : Int), v25 = .int .i64 n27 ∧ law06_ClassFits.p9 (fun v w' => v = .bool true ∧ Below w.heap.size w w') (decide ((IntKind.wrap .i64 (n24 * n27)) ≤ (256 : Int))) w26)) := by
      intro w' hb
      refine class_Slots_c ⟨_, rfl, class_Size_c ⟨_, rfl, ?_, hb⟩⟩
      rw [wrap64_in (by omega) (by omega), decide_eq_true hsz.2.2.1]
    have more : ∀ w', Below w.heap.size w w' → ¬ n < 17 → CallsE Pg class_Size.N #[.int .i64 (clsOf n)] w' (fun v28 w29 => ∃ (n30 : Int), v28 = .int .i64 n30 ∧ (2 : Int) ≠ 0 ∧ condP (decide (n30 ≤ (IntKind.wrap .i64 (n + (IntKind.wrap .i64 (Int.tdiv n 2)))))) (CallsE Pg class_Slots.N #[.int .i64 (clsOf n)] w29 (fun v31 w32 => ∃ (n33 : Int), v31 = .int .i64 n33 ∧ CallsE Pg class_Size.N #[.int .i64 (clsOf n)] w32 (fun v34 w35 => ∃ (n36 : Int), v34 = .int .i64 n36 ∧ law06_ClassFits.p9 (fun v w' => v = .bool true ∧ Below w.heap.size w w') (decide ((IntKind.wrap .i64 (n33 * n36)) ≤ (256 : Int))) w35))) (law06_ClassFits.p9 (fun v w' => v = .bool true ∧ Below w.heap.size w w') false w29)) := by
      intro w' hb h17
      refine class_Size_c ⟨_, rfl, by decide, cond_dec (fun _ => last w' hb) (fun h => absurd ?_ h)⟩
      rw [Int.tdiv_eq_ediv_of_nonneg (by omega), wrap64_in (x := n / 2) (by omega) (by omega), wrap64_in (by omega) (by omega)]
      unfold clsOf
      rw [if_neg h1, if_neg h2, if_neg (by omega : ¬ n ≤ 16)]
      unfold clsOf at h7
      rw [if_neg h1, if_neg h2] at h7
      (repeat' split) <;> simp [clsSize] <;> (try omega)
      repeat' split at h7
      all_goals omega
    refine cond_eq (fun h0 => ?_) (fun h0 => ?_)
    · exact cond_dec (fun _ => last w' hb) (fun h17 => more w' hb h17)
    · rw [wrap64_in (x := clsOf n - 1) (by omega) (by omega)]
      have hlt : ¬ n ≤ clsSize (clsOf n - 1) := fun h => by have := (clsOf_le (by omega) (by omega) (by omega) (by omega)).1 h; omega
      refine class_Size_c ⟨_, rfl, cond_dec (fun _ => ?_) (fun h => absurd (by omega) h)⟩
      exact cond_dec (fun _ => last w' hb) (fun h17 => more w' hb h17)
theorem clsOf_mono {a b : Int} (h1 : 1 ≤ a) (h2 : a ≤ b) (h3 : b ≤ 4096) : clsOf a ≤ clsOf b := by
  unfold clsOf
  rw [if_neg (by omega : ¬ a < 1), if_neg (by omega : ¬ 4096 < a), if_neg (by omega : ¬ b < 1), if_neg (by omega : ¬ 4096 < b)]
  (repeat' split) <;> omega
theorem clsPages_mono {a b : Int} (h1 : 1 ≤ a) (h2 : a ≤ b) (h3 : b ≤ 4096) : clsPages a ≤ clsPages b := by
  have := clsOf_mono h1 h2 h3
  have h0 : ∀ n : Int, 1 ≤ n → n ≤ 4096 → 0 ≤ clsOf n := fun n ha hb => by unfold clsOf; (repeat' split) <;> omega
  have := h0 a h1 (by omega)
  have := h0 b (by omega) h3
  unfold clsPages
  rw [if_neg (by omega : ¬ clsOf a < 0), if_neg (by omega : ¬ clsOf b < 0)]
  by_cases ha : clsOf a < 7
  · rw [if_pos ha]
    split <;> omega
  · rw [if_neg ha, if_neg (by omega)]
    omega
theorem law_ClassRises (w : World) (a : Int) (ha : (Lit.int .i64 a).wf = true) (b : Int) (hb : (Lit.int .i64 b).wf = true) : CallsE Pg law06_ClassRises.N #[.int .i64 a, .int .i64 b] w (fun v w' => v = .bool true ∧ Below w.heap.size w w') := by
  refine law06_ClassRises.ok (law06_alive_c fun w' hb => ⟨_, rfl, ?_⟩)
  show law06_ClassRises.p2 _ (imin a b) (imax a b) w'
  have hle : imin a b ≤ imax a b := by unfold imin imax; (repeat' split) <;> omega
  generalize imin a b = x at hle
  generalize imax a b = y at hle
  refine cond_dec (fun h => ⟨rfl, hb⟩) (fun h1 => ?_)
  by_cases h2 : 4096 < y
  · rw [decide_eq_true h2]; exact ⟨rfl, hb⟩
  rw [decide_eq_false h2]
  refine class_Of_c ⟨_, rfl, class_Of_c ⟨_, rfl, cond_dec (fun _ => ?_) (fun h => absurd (clsOf_mono (by omega) hle (by omega)) h)⟩⟩
  refine class_Pages_c ⟨_, rfl, class_Pages_c ⟨_, rfl, ?_, hb⟩⟩
  rw [decide_eq_true (clsPages_mono (by omega) hle (by omega))]
theorem law06_needs_loop {w1 : World} {K : Value → World → Prop} {A B : Option Addr} {n c d : Nat} {xs : List Int} (hx : Cs w1 A (nums .i64 xs)) (hy : Cs w1 B (nums .i64 xs)) (hn : n = xs.length) (hl : xs.length ≤ 5000) (hK : K (.bool true) w1) : ∀ (j k : Nat), k + j = n →
    law06_ClassNeeds.l0 K (j + 1) A n c B n d n k w1 := by
  intro j
  induction j with
  | zero =>
    intro k hk
    rw [law06_ClassNeeds.l0_succ]
    exact cond_dec (fun h => by omega) (fun _ => hK)
  | succ j ih =>
    intro k hk
    rw [law06_ClassNeeds.l0_succ]
    refine cond_dec (fun _ => ?_) (fun h => absurd h (by omega))
    have hxk : xs[k]? = some xs[k] := List.getElem?_eq_getElem (by omega)
    obtain ⟨a, rfl, ha⟩ := hx.at (nums_at hxk)
    obtain ⟨b, rfl, hb⟩ := hy.at (nums_at hxk)
    refine ⟨⟨by omega, by omega⟩, b, rfl, _, hb, ⟨by omega, by omega⟩, a, rfl, _, ha, cond_ne (fun h => absurd rfl h) (fun _ => ?_)⟩
    rw [wrap64_in (x := (k : Int) + 1) (by omega) (by omega)]
    exact ih (k + 1) (by omega)
theorem law_ClassNeeds (w : World) (A : Option Addr) (n c : Nat) (xs : List Int) (hx : Cs w A (nums .i64 xs)) (hn : n = xs.length) (hw : ∀ x ∈ xs, (Lit.int .i64 x).wf = true) (hy : n * 8 ≤ 140737488351232) :
    CallsE Pg law06_ClassNeeds.N #[.slice A n c] w (fun v w' => v = .bool true ∧ Below w.heap.size w w') := by
  refine law06_ClassNeeds.ok (law06_alive_c fun w1 hb1 => ⟨_, rfl, ?_⟩)
  refine condP_nt ?_
  refine cond_dec (fun _ => ⟨rfl, hb1⟩) (fun hs => ?_)
  refine wlet_intro fun w2 h2 => ?_
  subst h2
  have hb2 : Below w.heap.size w (w1.alloc (.cells #[] Ty.int)) := hb1.alloc hb1.size _
  refine app_ints (base := w1.heap.size) (n := 0) (xs := []) (own_new w1 Ty.int (Nat.le_refl _) [] (by decide) rfl) hn (hx.below hb2) (by omega) (by simp) fun A' c' w3 ho hg => ⟨_, _, _, rfl, ?_⟩
  have hb3 : Below w.heap.size w w3 := hb2.trans (hg.mono hb1.size)
  simp only [List.nil_append, Nat.zero_add] at ho ⊢
  refine class_Need_c hn (Cs.ofOwn ho) (by omega) fun w4 hb4 => ⟨_, rfl, ?_⟩
  have hb4' : Below w.heap.size w w4 := hb3.trans (hb4.mono hb3.size)
  refine ref06_Need_c hn (hx.below hb4') (by omega) ⟨_, rfl, cond_ne (fun h => absurd rfl h) (fun _ => ?_)⟩
  exact ⟨n + 1, law06_needs_loop (hx.below hb4') ((Cs.ofOwn ho).below hb4) hn (by omega) ⟨rfl, hb4'⟩ n 0 (by omega)⟩

/-! what is needed together -/
theorem cntN_app (c : Int) (a b : List Int) : cntN c (a ++ b) = cntN c a + cntN c b := by unfold cntN; rw [List.countP_append]
theorem big_app (a b : List Int) : big (a ++ b) = big a + big b := by unfold big; rw [List.map_append, List.sum_append]
theorem up_app {m n : Nat} {c : Nat} (hc : c < 7) : up ((m + n : Nat) : Int) (clsSlots c) ≤ up m (clsSlots c) + up n (clsSlots c) ∧ up m (clsSlots c) ≤ up ((m + n : Nat) : Int) (clsSlots c) ∧ up n (clsSlots c) ≤ up ((m + n : Nat) : Int) (clsSlots c) := by
  have : c = 0 ∨ c = 1 ∨ c = 2 ∨ c = 3 ∨ c = 4 ∨ c = 5 ∨ c = 6 := by omega
  rcases this with rfl | rfl | rfl | rfl | rfl | rfl | rfl
  · show up _ 16 ≤ up _ 16 + up _ 16 ∧ up _ 16 ≤ up _ 16 ∧ up _ 16 ≤ up _ 16
    unfold up; omega
  · show up _ 10 ≤ up _ 10 + up _ 10 ∧ up _ 10 ≤ up _ 10 ∧ up _ 10 ≤ up _ 10
    unfold up; omega
  · show up _ 8 ≤ up _ 8 + up _ 8 ∧ up _ 8 ≤ up _ 8 ∧ up _ 8 ≤ up _ 8
    unfold up; omega
  · show up _ 5 ≤ up _ 5 + up _ 5 ∧ up _ 5 ≤ up _ 5 ∧ up _ 5 ≤ up _ 5
    unfold up; omega
  · show up _ 4 ≤ up _ 4 + up _ 4 ∧ up _ 4 ≤ up _ 4 ∧ up _ 4 ≤ up _ 4
    unfold up; omega
  · show up _ 2 ≤ up _ 2 + up _ 2 ∧ up _ 2 ≤ up _ 2 ∧ up _ 2 ≤ up _ 2
    unfold up; omega
  · show up _ 2 ≤ up _ 2 + up _ 2 ∧ up _ 2 ≤ up _ 2 ∧ up _ 2 ≤ up _ 2
    unfold up; omega
theorem needTo_app (a b : List Int) : ∀ c, c ≤ 7 → needTo (a ++ b) 0 c ≤ needTo a 0 c + needTo b 0 c ∧ needTo a 0 c ≤ needTo (a ++ b) 0 c ∧ needTo b 0 c ≤ needTo (a ++ b) 0 c := by
  intro c
  induction c with
  | zero => intro _; simp [needTo]
  | succ c ih =>
    intro hc
    have h1 := ih (by omega)
    have h2 := up_app (m := cntN c a) (n := cntN c b) (show c < 7 by omega)
    simp only [needTo]
    rw [cntN_app]
    omega
theorem need_app (a b : List Int) : clsNeed (a ++ b) ≤ clsNeed a + clsNeed b ∧ clsNeed a ≤ clsNeed (a ++ b) ∧ clsNeed b ≤ clsNeed (a ++ b) := by
  have h := needTo_app a b 7 (Nat.le_refl _)
  have ha := big_range a
  have hb := big_range b
  unfold clsNeed
  rw [needTo_add _ (big (a ++ b)), needTo_add _ (big a), needTo_add _ (big b), big_app]
  omega
theorem needTo_comm (a b : List Int) (p : Int) : ∀ c, needTo (a ++ b) p c = needTo (b ++ a) p c
  | 0 => rfl
  | c + 1 => by simp only [needTo]; rw [needTo_comm a b p c, cntN_app, cntN_app, Nat.add_comm]
theorem need_comm (a b : List Int) : clsNeed (a ++ b) = clsNeed (b ++ a) := by
  unfold clsNeed
  rw [big_app, big_app, Int.add_comm, needTo_comm]
theorem need_one (n : Int) : clsNeed [n] = clsPages n := by
  have hr := clsOf_range n
  have h1 : ∀ c : Nat, cntN c [n] = if clsOf n = c then 1 else 0 := fun c => by unfold cntN; by_cases h : clsOf n = c <;> simp [h]
  have h0 : ∀ (s : Int), 1 ≤ s → up ((0 : Nat) : Int) s = 0 := fun s hs => by unfold up; exact Int.ediv_eq_zero_of_lt (by omega) (by omega)
  have hp : ∀ c : Nat, clsOf n = c → c < 7 → clsPages n = 1 := fun c h hc => by unfold clsPages; rw [if_neg (by omega), if_pos (by omega)]
  have hm : clsOf n = -1 → clsPages n = 0 := fun h => by unfold clsPages; rw [if_pos (by omega)]
  have hb : big [n] = if clsOf n = 7 then clsPages n else 0 := by simp [big]
  unfold clsNeed
  simp only [needTo, h1, hb]
  have hh : clsOf n = -1 ∨ clsOf n = 0 ∨ clsOf n = 1 ∨ clsOf n = 2 ∨ clsOf n = 3 ∨ clsOf n = 4 ∨ clsOf n = 5 ∨ clsOf n = 6 ∨ clsOf n = 7 := by omega
  rcases hh with h | h | h | h | h | h | h | h | h
  · rw [hm h, h]; decide
  · rw [hp 0 h (by omega), h]; decide
  · rw [hp 1 h (by omega), h]; decide
  · rw [hp 2 h (by omega), h]; decide
  · rw [hp 3 h (by omega), h]; decide
  · rw [hp 4 h (by omega), h]; decide
  · rw [hp 5 h (by omega), h]; decide
  · rw [hp 6 h (by omega), h]; decide
  · rw [h, if_pos rfl]
    have e : ∀ s : Int, 1 ≤ s → up ((if (7 : Int) = 0 then 1 else 0 : Nat) : Int) s = 0 := fun s hs => h0 s hs
    show clsPages n + up 0 16 + up 0 10 + up 0 8 + up 0 5 + up 0 4 + up 0 2 + up 0 2 = clsPages n
    have e1 : up 0 16 = 0 := by decide
    have e2 : up 0 10 = 0 := by decide
    have e3 : up 0 8 = 0 := by decide
    have e4 : up 0 5 = 0 := by decide
    have e5 : up 0 4 = 0 := by decide
    have e6 : up 0 2 = 0 := by decide
    omega
theorem need_range (xs : List Int) : 0 ≤ clsNeed xs ∧ clsNeed xs ≤ 23 * xs.length := by
  have hb := big_range xs
  have := needTo_range xs (big xs) hb.1 7 (Nat.le_refl _)
  unfold clsNeed
  omega
theorem law_ClassMore (w : World) (A : Option Addr) (n c : Nat) (xs : List Int) (hx : Cs w A (nums .i64 xs)) (hn : n = xs.length) (hw : ∀ x ∈ xs, (Lit.int .i64 x).wf = true) (hy : n * 8 ≤ 140737488351232) (m : Int) (hm : (Lit.int .i64 m).wf = true) :
    CallsE Pg law06_ClassMore.N #[.slice A n c, .int .i64 m] w (fun v w' => v = .bool true ∧ Below w.heap.size w w') := by
  refine law06_ClassMore.ok (law06_alive_c fun w1 hb1 => ⟨_, rfl, ?_⟩)
  refine condP_nt ?_
  refine cond_dec (fun _ => ⟨rfl, hb1⟩) (fun hs => ?_)
  refine class_Need_c hn (hx.below hb1) (by omega) fun w2 hb2 => ⟨_, rfl, ?_⟩
  replace hb2 : Below w.heap.size w w2 := hb1.trans (hb2.mono hb1.size)
  refine wlet_intro fun w3 h3 => ?_
  subst h3
  have hb3 : Below w.heap.size w (w2.alloc (.cells #[] Ty.int)) := hb2.alloc hb2.size _
  refine app_ints (base := w.heap.size) (n := 0) (xs := []) (own_new w2 Ty.int hb2.size [] (by decide) rfl) hn (hx.below hb3) (by omega) hb3.size fun A' c' w3 ho hg => ⟨_, _, _, rfl, ?_⟩
  have hb4 : Below w.heap.size w w3 := hb3.trans hg
  simp only [List.nil_append, Nat.zero_add] at ho ⊢
  refine wlet_intro fun w5 h5 => ?_
  subst h5
  have hb5 : Below w.heap.size w (w3.alloc (.cells #[.int .i64 m] Ty.int)) := hb4.alloc hb4.size _
  have ho5 : (w3.alloc (.cells #[.int .i64 m] Ty.int)).ownsRow w.heap.size Ty.int 1 (.slice A' n c') n (nums .i64 xs) := own_kp ho (Kp.alloc (fun _ => False) w3 _) (fun _ _ => id)
  refine app_ints (base := w.heap.size) (m := 1) (ys := [m]) ho5 rfl (Cs.of_blk0 (Blk.new w3 Ty.int (nums .i64 [m]))) (by omega) hb5.size fun A6 c6 w6 ho6 hg6 => ⟨_, _, _, rfl, ?_⟩
  have hb6 : Below w.heap.size w w6 := hb5.trans hg6
  refine class_Need_c (by simp [hn]) (Cs.ofOwn ho6) (by simp; omega) fun w7 hb7 => ⟨_, rfl, ?_⟩
  replace hb7 : Below w.heap.size w w7 := hb6.trans (hb7.mono hb6.size)
  refine wlet_intro fun w8 h8 => ?_
  subst h8
  have hb8 : Below w.heap.size w (w7.alloc (.cells #[.int .i64 m] Ty.int)) := hb7.alloc hb7.size _
  refine app_ints (base := w.heap.size) (n := 1) (xs := [m]) (own_new w7 Ty.int hb7.size [.int .i64 m] (by unfold maxLen; simp) rfl) hn (hx.below hb8) (by omega) hb8.size fun A9 c9 w9 ho9 hg9 => ⟨_, _, _, rfl, ?_⟩
  have hb9 : Below w.heap.size w w9 := hb8.trans hg9
  refine class_Need_c (by simp [hn]; omega) (Cs.ofOwn ho9) (by simp; omega) fun w10 hb10 => ⟨_, rfl, ?_⟩
  replace hb10 : Below w.heap.size w w10 := hb9.trans (hb10.mono hb9.size)
  have h1 := need_app xs [m]
  rw [need_one] at h1
  have hr := need_range xs
  have hp := clsPages_range m
  refine cond_eq (fun _ => ?_) (fun h => absurd (need_comm xs [m]) h)
  refine cond_dec (fun _ => ?_) (fun h => absurd h1.2.1 h)
  refine class_Pages_c ⟨_, rfl, ?_, hb10⟩
  rw [wrap64_in (by omega) (by omega), decide_eq_true h1.1]
theorem law_ClassApart (w : World) (A : Option Addr) (n c : Nat) (xs : List Int) (hx : Cs w A (nums .i64 xs)) (hn : n = xs.length) (hw : ∀ x ∈ xs, (Lit.int .i64 x).wf = true) (hy : n * 8 ≤ 140737488351232)
    (A1 : Option Addr) (n1 c1 : Nat) (ys : List Int) (hy1 : Cs w A1 (nums .i64 ys)) (hn1 : n1 = ys.length) (hw1 : ∀ x ∈ ys, (Lit.int .i64 x).wf = true) (hz1 : n1 * 8 ≤ 140737488351232) :
    CallsE Pg law06_ClassApart.N #[.slice A n c, .slice A1 n1 c1] w (fun v w' => v = .bool true ∧ Below w.heap.size w w') := by
  refine law06_ClassApart.ok (law06_alive_c fun w1 hb1 => ⟨_, rfl, ?_⟩)
  refine condP_nt ?_
  refine cond_dec (fun _ => ⟨rfl, hb1⟩) (fun hs => ?_)
  by_cases hs1 : (2000 : Int) < ((n1 : Nat) : Int)
  · rw [decide_eq_true hs1]; exact ⟨rfl, hb1⟩
  rw [decide_eq_false hs1]
  refine condP_f ?_
  refine wlet_intro fun w2 h2 => ?_
  subst h2
  have hb2 : Below w.heap.size w (w1.alloc (.cells #[] Ty.int)) := hb1.alloc hb1.size _
  refine app_ints (base := w.heap.size) (n := 0) (xs := []) (own_new w1 Ty.int hb1.size [] (by decide) rfl) hn (hx.below hb2) (by omega) hb2.size fun A' c' w3 ho hg => ⟨_, _, _, rfl, ?_⟩
  have hb3 : Below w.heap.size w w3 := hb2.trans hg
  simp only [List.nil_append, Nat.zero_add] at ho ⊢
  refine app_ints (base := w.heap.size) ho hn1 (hy1.below hb3) (by omega) hb3.size fun A4 c4 w4 ho4 hg4 => ⟨_, _, _, rfl, ?_⟩
  have hb4 : Below w.heap.size w w4 := hb3.trans hg4
  refine class_Need_c (by simp [hn, hn1]) (Cs.ofOwn ho4) (by simp; omega) fun w5 hb5 => ⟨_, rfl, ?_⟩
  replace hb5 : Below w.heap.size w w5 := hb4.trans (hb5.mono hb4.size)
  have h1 := need_app xs ys
  have hr := need_range xs
  have hr1 := need_range ys
  refine class_Need_c hn (hx.below hb5) (by omega) fun w6 hb6 => ⟨_, rfl, ?_⟩
  replace hb6 : Below w.heap.size w w6 := hb5.trans (hb6.mono hb5.size)
  refine class_Need_c hn1 (hy1.below hb6) (by omega) fun w7 hb7 => ⟨_, rfl, ?_⟩
  replace hb7 : Below w.heap.size w w7 := hb6.trans (hb7.mono hb6.size)
  rw [wrap64_in (by omega) (by omega)]
  refine cond_dec (fun _ => ?_) (fun h => absurd h1.1 h)
  refine class_Need_c hn (hx.below hb7) (by omega) fun w8 hb8 => ⟨_, rfl, ?_⟩
  replace hb8 : Below w.heap.size w w8 := hb7.trans (hb8.mono hb7.size)
  refine cond_dec (fun _ => ?_) (fun h => absurd h1.2.1 h)
  refine class_Need_c hn1 (hy1.below hb8) (by omega) fun w9 hb9 => ⟨_, rfl, ?_, hb8.trans (hb9.mono hb8.size)⟩
  rw [decide_eq_true h1.2.2]

end Go.Proofs.Ytemcmkhkbbjehaa.C
