/-
  Parts of the proofs of this seat: what the functions compute. No condition beyond what each theorem states.
-/
import Derived.Test.YtemcmkhkbbjehaaF
import Derived.Test.YtemcmkhkbbjehaaRK
set_option linter.unusedVariables false
set_option linter.unusedSimpArgs false
set_option maxRecDepth 100000
namespace Go.Proofs.Ytemcmkhkbbjehaa.C
open Go Go.RowKit Go.Proofs.Ytemcmkhkbbjehaa Go.Proofs.Ytemcmkhkbbjehaa.Sh Go.Proofs.Ytemcmkhkbbjehaa.F

/-! ### class, and its document: what they compute -/
def clsOf (n : Int) : Int := if n < 1 then -1 else if 4096 < n then -1 else if n ≤ 16 then 0 else if n ≤ 24 then 1 else if n ≤ 32 then 2 else if n ≤ 48 then 3 else if n ≤ 64 then 4 else if n ≤ 96 then 5 else if n ≤ 128 then 6 else 7
def clsSize (c : Int) : Int := if c = 0 then 16 else if c = 1 then 24 else if c = 2 then 32 else if c = 3 then 48 else if c = 4 then 64 else if c = 5 then 96 else if c = 6 then 128 else 0
def clsSlots (c : Int) : Int := if c = 7 then 1 else if c = 0 then 16 else if c = 1 then 10 else if c = 2 then 8 else if c = 3 then 5 else if c = 4 then 4 else if c = 5 then 2 else if c = 6 then 2 else 0
def clsPages (n : Int) : Int := if clsOf n < 0 then 0 else if clsOf n < 7 then 1 else (n + 255) / 256

theorem clsOf_range (n : Int) : -1 ≤ clsOf n ∧ clsOf n ≤ 7 := by unfold clsOf; repeat' split <;> omega
theorem clsPages_range (n : Int) : 0 ≤ clsPages n ∧ clsPages n ≤ 16 := by
  unfold clsPages
  split
  · omega
  · split
    · omega
    · have : n ≤ 4096 ∧ 1 ≤ n := by
        rename_i h1 h2
        unfold clsOf at h1
        by_cases a : n < 1
        · rw [if_pos a] at h1; omega
        · rw [if_neg a] at h1
          by_cases b : 4096 < n
          · rw [if_pos b] at h1; omega
          · omega
      omega

theorem class_Of_c {n : Int} {K : Value → World → Prop} {w : World} (h : K (.int .i64 (clsOf n)) w) : CallsE Pg class_Of.N #[.int .i64 n] w K := by
  refine class_Of.ok ?_
  unfold clsOf at h
  have W : ∀ x : Int, 0 ≤ x → x ≤ 7 → IntKind.wrap .i64 (x - 1) = x - 1 := fun x a b => wrap64_in (by omega) (by omega)
  refine cond_dec (fun h1 => ?_) (fun h1 => ?_)
  · rw [if_pos h1] at h; exact h
  rw [if_neg h1] at h
  refine cond_dec (fun h2 => ?_) (fun h2 => ?_)
  · rw [if_pos h2] at h; exact h
  rw [if_neg h2] at h
  refine cond_dec (fun h3 => ?_) (fun h3 => ?_)
  · rw [if_pos h3] at h; exact h
  rw [if_neg h3] at h
  refine cond_dec (fun h3 => ?_) (fun h3 => ?_)
  · rw [if_pos h3] at h; exact h
  rw [if_neg h3] at h
  refine cond_dec (fun h3 => ?_) (fun h3 => ?_)
  · rw [if_pos h3] at h; exact h
  rw [if_neg h3] at h
  refine cond_dec (fun h3 => ?_) (fun h3 => ?_)
  · rw [if_pos h3] at h; exact h
  rw [if_neg h3] at h
  refine cond_dec (fun h3 => ?_) (fun h3 => ?_)
  · rw [if_pos h3] at h; exact h
  rw [if_neg h3] at h
  refine cond_dec (fun h3 => ?_) (fun h3 => ?_)
  · rw [if_pos h3] at h; exact h
  rw [if_neg h3] at h
  refine cond_dec (fun h3 => ?_) (fun h3 => ?_)
  · rw [if_pos h3] at h; exact h
  rw [if_neg h3] at h
  exact h

theorem class_Size_c {c : Int} {K : Value → World → Prop} {w : World} (h : K (.int .i64 (clsSize c)) w) : CallsE Pg class_Size.N #[.int .i64 c] w K := by
  refine class_Size.ok ?_
  refine cond_dec (fun h1 => ?_) (fun h1 => ?_)
  · have : clsSize c = 0 := by unfold clsSize; repeat' rw [if_neg (by omega)]
    rw [this] at h; exact h
  refine cond_dec (fun h2 => ?_) (fun h2 => ?_)
  · have : clsSize c = 0 := by unfold clsSize; repeat' rw [if_neg (by omega)]
    rw [this] at h; exact h
  have hc : c = 0 ∨ c = 1 ∨ c = 2 ∨ c = 3 ∨ c = 4 ∨ c = 5 ∨ c = 6 := by omega
  rcases hc with rfl | rfl | rfl | rfl | rfl | rfl | rfl <;>
    exact ⟨by decide, by decide, by decide, by first | exact ⟨by decide, h⟩ | exact h⟩

theorem ref06_Size_c {c : Int} {K : Value → World → Prop} {w : World} (h : K (.int .i64 (clsSize c)) w) : CallsE Pg ref06_Size.N #[.int .i64 c] w K := by
  refine ref06_Size.ok ?_
  refine cond_dec (fun h1 => ?_) (fun h1 => ?_)
  · have : clsSize c = 0 := by unfold clsSize; repeat' rw [if_neg (by omega)]
    rw [this] at h; exact h
  refine cond_dec (fun h2 => ?_) (fun h2 => ?_)
  · have : clsSize c = 0 := by unfold clsSize; repeat' rw [if_neg (by omega)]
    rw [this] at h; exact h
  have hc : c = 0 ∨ c = 1 ∨ c = 2 ∨ c = 3 ∨ c = 4 ∨ c = 5 ∨ c = 6 := by omega
  rcases hc with rfl | rfl | rfl | rfl | rfl | rfl | rfl <;> exact ⟨by decide, _, rfl, h⟩

theorem class_Slots_c {c : Int} {K : Value → World → Prop} {w : World} (h : K (.int .i64 (clsSlots c)) w) : CallsE Pg class_Slots.N #[.int .i64 c] w K := by
  refine class_Slots.ok ?_
  refine cond_eq (fun h1 => ?_) (fun h1 => ?_)
  · subst h1; exact h
  refine class_Size_c ⟨_, rfl, ?_⟩
  by_cases hc : c = 0 ∨ c = 1 ∨ c = 2 ∨ c = 3 ∨ c = 4 ∨ c = 5 ∨ c = 6
  · rcases hc with rfl | rfl | rfl | rfl | rfl | rfl | rfl <;> exact ⟨by decide, h⟩
  · have e1 : clsSize c = 0 := by unfold clsSize; repeat' rw [if_neg (by omega)]
    have e2 : clsSlots c = 0 := by unfold clsSlots; repeat' rw [if_neg (by omega)]
    rw [e1]
    rw [e2] at h
    exact h
theorem ref06_Slots_c {c : Int} {K : Value → World → Prop} {w : World} (h : K (.int .i64 (clsSlots c)) w) : CallsE Pg ref06_Slots.N #[.int .i64 c] w K := by
  refine ref06_Slots.ok ?_
  refine cond_eq (fun h1 => ?_) (fun h1 => ?_)
  · subst h1; exact h
  refine ref06_Size_c ⟨_, rfl, ?_⟩
  by_cases hc : c = 0 ∨ c = 1 ∨ c = 2 ∨ c = 3 ∨ c = 4 ∨ c = 5 ∨ c = 6
  · refine cond_eq (fun h2 => ?_) (fun h2 => ?_)
    · exact absurd h2 (by rcases hc with rfl | rfl | rfl | rfl | rfl | rfl | rfl <;> decide)
    refine ref06_Size_c ⟨_, rfl, h2, ?_⟩
    rcases hc with rfl | rfl | rfl | rfl | rfl | rfl | rfl <;> exact h
  · have e1 : clsSize c = 0 := by unfold clsSize; repeat' rw [if_neg (by omega)]
    have e2 : clsSlots c = 0 := by unfold clsSlots; repeat' rw [if_neg (by omega)]
    rw [e1]
    rw [e2] at h
    exact h
theorem clsOf_big {n : Int} (h : ¬ clsOf n < 0) : 1 ≤ n ∧ n ≤ 4096 := by
  unfold clsOf at h
  by_cases a : n < 1
  · rw [if_pos a] at h; omega
  · rw [if_neg a] at h
    by_cases b : 4096 < n
    · rw [if_pos b] at h; omega
    · omega
theorem class_Pages_c {n : Int} {K : Value → World → Prop} {w : World} (h : K (.int .i64 (clsPages n)) w) : CallsE Pg class_Pages.N #[.int .i64 n] w K := by
  refine class_Pages.ok (class_Of_c ⟨_, rfl, ?_⟩)
  unfold clsPages at h
  refine cond_dec (fun h1 => ?_) (fun h1 => ?_)
  · rw [if_pos h1] at h; exact h
  rw [if_neg h1] at h
  refine cond_dec (fun h2 => ?_) (fun h2 => ?_)
  · rw [if_pos h2] at h; exact h
  rw [if_neg h2] at h
  have hb := clsOf_big h1
  refine ⟨by decide, ?_⟩
  have e : IntKind.wrap .i64 (Int.tdiv (IntKind.wrap .i64 ((IntKind.wrap .i64 (n + (256 : Int))) - (1 : Int))) 256) = (n + 255) / 256 := by
    rw [wrap64_in (x := n + 256) (by omega) (by omega), wrap64_in (x := n + 256 - 1) (by omega) (by omega), Int.tdiv_eq_ediv_of_nonneg (by omega), wrap64_in (by omega) (by omega)]
    congr 1
    omega
  rw [e]
  exact h
theorem clsOf_le {n c : Int} (h1 : 1 ≤ n) (h2 : n ≤ 4096) (h3 : 0 ≤ c) (h4 : c ≤ 6) : n ≤ clsSize c ↔ clsOf n ≤ c := by
  have hcc : c = 0 ∨ c = 1 ∨ c = 2 ∨ c = 3 ∨ c = 4 ∨ c = 5 ∨ c = 6 := by omega
  have n1 : ¬ n < 1 := by omega
  have n2 : ¬ 4096 < n := by omega
  unfold clsOf
  rw [if_neg n1, if_neg n2]
  rcases hcc with rfl | rfl | rfl | rfl | rfl | rfl | rfl
  · show n ≤ 16 ↔ _
    repeat' split <;> omega
  · show n ≤ 24 ↔ _
    repeat' split <;> omega
  · show n ≤ 32 ↔ _
    repeat' split <;> omega
  · show n ≤ 48 ↔ _
    repeat' split <;> omega
  · show n ≤ 64 ↔ _
    repeat' split <;> omega
  · show n ≤ 96 ↔ _
    repeat' split <;> omega
  · show n ≤ 128 ↔ _
    repeat' split <;> omega
/-- The document's loop over the classes. -/
theorem ref06_Of_loop {n : Int} (h1 : 1 ≤ n) (h2 : n ≤ 4096) {K : Value → World → Prop} {w : World} (h : K (.int .i64 (clsOf n)) w) : ∀ (d : Nat) (c : Int), 0 ≤ c → c + d = 7 → c ≤ clsOf n → ref06_Of.l0 K (d + 1) n c w := by
  intro d
  induction d with
  | zero =>
    intro c h0 h7 hc
    rw [ref06_Of.l0_succ]
    refine cond_dec (fun h3 => by omega) (fun h3 => ?_)
    have : clsOf n = 7 := by have := clsOf_range n; omega
    rw [this] at h
    exact h
  | succ d ih =>
    intro c h0 h7 hc
    rw [ref06_Of.l0_succ]
    refine cond_dec (fun h3 => ?_) (fun h3 => by omega)
    refine ref06_Size_c ⟨_, rfl, ?_⟩
    have W : IntKind.wrap .i64 (c + 1) = c + 1 := wrap64_in (by omega) (by omega)
    have kk := clsOf_le h1 h2 h0 (show c ≤ 6 by omega)
    have key : (n ≤ clsSize c → clsOf n = c) ∧ (¬ n ≤ clsSize c → c + 1 ≤ clsOf n) := ⟨fun h => by have := kk.1 h; omega, fun h => by have : ¬ clsOf n ≤ c := fun e => h (kk.2 e); omega⟩
    refine cond_dec (fun h4 => ?_) (fun h4 => ?_)
    · rw [key.1 h4] at h; exact h
    · rw [W]; exact ih (c + 1) (by omega) (by omega) (key.2 h4)
theorem ref06_Of_c {n : Int} {K : Value → World → Prop} {w : World} (h : K (.int .i64 (clsOf n)) w) : CallsE Pg ref06_Of.N #[.int .i64 n] w K := by
  refine ref06_Of.ok ?_
  refine cond_dec (fun h1 => ?_) (fun h1 => ?_)
  · have : clsOf n = -1 := by unfold clsOf; rw [if_pos h1]
    rw [this] at h; exact h
  refine cond_dec (fun h2 => ?_) (fun h2 => ?_)
  · have : clsOf n = -1 := by unfold clsOf; rw [if_neg h1, if_pos h2]
    rw [this] at h; exact h
  refine ⟨8, ref06_Of_loop (by omega) (by omega) h 7 0 (by omega) (by omega) ?_⟩
  unfold clsOf
  rw [if_neg h1, if_neg h2]
  repeat' split <;> omega
theorem ref06_Pages_c {n : Int} {K : Value → World → Prop} {w : World} (h : K (.int .i64 (clsPages n)) w) : CallsE Pg ref06_Pages.N #[.int .i64 n] w K := by
  refine ref06_Pages.ok (ref06_Of_c ⟨_, rfl, ?_⟩)
  unfold clsPages at h
  refine cond_dec (fun h1 => ?_) (fun h1 => ?_)
  · rw [if_pos h1] at h; exact h
  rw [if_neg h1] at h
  refine ref06_Of_c ⟨_, rfl, ?_⟩
  refine cond_dec (fun h2 => ?_) (fun h2 => ?_)
  · rw [if_pos h2] at h; exact h
  rw [if_neg h2] at h
  have hb := clsOf_big h1
  refine ⟨by decide, ?_⟩
  have e : IntKind.wrap .i64 (Int.tdiv (IntKind.wrap .i64 (n + (255 : Int))) 256) = (n + 255) / 256 := by
    rw [wrap64_in (x := n + 255) (by omega) (by omega), Int.tdiv_eq_ediv_of_nonneg (by omega), wrap64_in (by omega) (by omega)]
  rw [e]
  exact h
/-! ### Need -/
def nums (k : IntKind) (xs : List Int) : List Value := xs.map fun x => .int k x
theorem nums_len (k : IntKind) (xs : List Int) : (nums k xs).length = xs.length := by simp [nums]
theorem nums_at {k : IntKind} {xs : List Int} {j : Nat} {x : Int} (h : xs[j]? = some x) : (nums k xs)[j]? = some (.int k x) := by simp [nums, h]
theorem map_set {f f' : Nat → Value} {n j : Nat} (hj : j < n) (h : ∀ i, i ≠ j → f' i = f i) : ((List.range n).map f).set j (f' j) = (List.range n).map f' := by
  apply List.ext_getElem
  · simp
  · intro i h1 h2
    rw [List.getElem_set]
    split
    · rename_i e; subst e; simp
    · rename_i e; simp; exact (h i (fun e' => e e'.symm)).symm
theorem take_snoc {α : Type} {xs : List α} {k : Nat} {x : α} (h : xs[k]? = some x) : xs.take (k + 1) = xs.take k ++ [x] := by
  obtain ⟨hk, rfl⟩ := List.getElem?_eq_some_iff.1 h
  rw [List.take_succ_eq_append_getElem hk]
def cntN (c : Int) (xs : List Int) : Nat := xs.countP fun x => clsOf x == c
def big (xs : List Int) : Int := (xs.map fun x => if clsOf x = 7 then clsPages x else 0).sum
def up (n s : Int) : Int := (n + s - 1) / s
def needTo (xs : List Int) (pages : Int) : Nat → Int
  | 0 => pages
  | c + 1 => needTo xs pages c + up (cntN c xs) (clsSlots c)
def clsNeed (xs : List Int) : Int := needTo xs (big xs) 7
theorem cntN_snoc (c : Int) (xs : List Int) (x : Int) : cntN c (xs ++ [x]) = cntN c xs + if clsOf x = c then 1 else 0 := by
  unfold cntN
  rw [List.countP_append]
  by_cases h : clsOf x = c <;> simp [h]
theorem cntN_le (c : Int) (xs : List Int) : cntN c xs ≤ xs.length := List.countP_le_length
theorem sum_app (l : List Int) (x : Int) : (l ++ [x]).sum = l.sum + x := by simp
theorem big_snoc (xs : List Int) (x : Int) : big (xs ++ [x]) = big xs + if clsOf x = 7 then clsPages x else 0 := by
  unfold big
  rw [List.map_append, List.map_singleton, sum_app]
theorem big_range (xs : List Int) : 0 ≤ big xs ∧ big xs ≤ 16 * xs.length := by
  induction xs with
  | nil => simp [big]
  | cons x xs ih =>
    unfold big at ih ⊢
    simp only [List.map_cons, List.sum_cons, List.length_cons]
    have := clsPages_range x
    split <;> omega
theorem slots_range {c : Nat} (h : c < 7) : 1 ≤ clsSlots c ∧ clsSlots c ≤ 16 := by
  have : c = 0 ∨ c = 1 ∨ c = 2 ∨ c = 3 ∨ c = 4 ∨ c = 5 ∨ c = 6 := by omega
  rcases this with rfl | rfl | rfl | rfl | rfl | rfl | rfl <;> decide
theorem up_range {n s : Int} (h0 : 0 ≤ n) (h1 : 1 ≤ s) : 0 ≤ up n s ∧ up n s ≤ n := by
  unfold up
  constructor
  · exact Int.ediv_nonneg (by omega) (by omega)
  · rcases Int.lt_or_le 0 n with h | h
    · have : (n + s - 1) < (n + 1) * s := by
        have : n * 1 ≤ n * s := Int.mul_le_mul_of_nonneg_left h1 h0
        rw [Int.add_mul]; omega
      have := Int.ediv_lt_of_lt_mul (by omega) this
      omega
    · have : n = 0 := by omega
      subst this
      have : (0 + s - 1) / s < 1 := Int.ediv_lt_of_lt_mul (by omega) (by omega)
      omega
theorem needTo_range (xs : List Int) (p : Int) (hp : 0 ≤ p) : ∀ c, c ≤ 7 → p ≤ needTo xs p c ∧ needTo xs p c ≤ p + c * xs.length := by
  intro c
  induction c with
  | zero => intro _; simp [needTo]
  | succ c ih =>
    intro hc
    have := ih (by omega)
    have hs := slots_range (show c < 7 by omega)
    have := up_range (n := (cntN c xs : Int)) (s := clsSlots c) (by omega) hs.1
    have hl := cntN_le c xs
    simp only [needTo]
    constructor
    · omega
    · have e : ((c + 1 : Nat) : Int) * xs.length = c * xs.length + xs.length := by rw [Int.natCast_add, Int.add_mul]; simp
      rw [e]; omega
def cnts (xs : List Int) : List Value := (List.range 7).map fun c : Nat => Value.int .i64 (cntN c xs : Int)

theorem need_up {n s : Int} (h0 : 0 ≤ n) (h1 : 1 ≤ s) (h2 : s ≤ 16) (h3 : n ≤ 100000000000000) :
    IntKind.wrap .i64 (Int.tdiv (IntKind.wrap .i64 ((IntKind.wrap .i64 (n + s)) - (1 : Int))) s) = up n s := by
  have hu := up_range h0 h1
  rw [wrap64_in (x := n + s) (by omega) (by omega), wrap64_in (x := n + s - 1) (by omega) (by omega), Int.tdiv_eq_ediv_of_nonneg (by omega)]
  exact wrap64_in (by unfold up at hu; omega) (by unfold up at hu; omega)

theorem class_Need_loop2 {xs : List Int} {K : Value → World → Prop} {w : World} (hl : xs.length ≤ 100000000000000) (hK : K (.int .i64 (clsNeed xs)) w) : ∀ (d c : Nat), c + d = 7 →
    class_Need.l1 K (d + 1) (needTo xs (big xs) c) (cntN 0 xs) (cntN 1 xs) (cntN 2 xs) (cntN 3 xs) (cntN 4 xs) (cntN 5 xs) (cntN 6 xs) c w := by
  intro d
  induction d with
  | zero =>
    intro c hc
    obtain rfl : c = 7 := by omega
    rw [class_Need.l1_succ]
    exact cond_dec (fun h => by omega) (fun _ => hK)
  | succ d ih =>
    intro c hc
    rw [class_Need.l1_succ]
    refine cond_dec (fun _ => ?_) (fun h => absurd h (by omega))
    have hs := slots_range (show c < 7 by omega)
    have hb := big_range xs
    have hn := needTo_range xs (big xs) hb.1 c (by omega)
    have hn1 := needTo_range xs (big xs) hb.1 (c + 1) (by omega)
    refine ⟨⟨by omega, by omega⟩, (cntN c xs : Int), ?_, class_Slots_c ⟨_, rfl, class_Slots_c ⟨_, rfl, by omega, ?_⟩⟩⟩
    · have : c = 0 ∨ c = 1 ∨ c = 2 ∨ c = 3 ∨ c = 4 ∨ c = 5 ∨ c = 6 := by omega
      rcases this with rfl | rfl | rfl | rfl | rfl | rfl | rfl <;> rfl
    · have hcn := cntN_le c xs
      rw [need_up (by omega) hs.1 hs.2 (by omega), wrap64_in (x := (c : Int) + 1) (by omega) (by omega)]
      have e : IntKind.wrap .i64 (needTo xs (big xs) c + up (cntN c xs) (clsSlots c)) = needTo xs (big xs) (c + 1) := by
        have e1 : needTo xs (big xs) c + up (cntN c xs) (clsSlots c) = needTo xs (big xs) (c + 1) := rfl
        rw [e1]
        have h7 : ((c + 1 : Nat) : Int) * xs.length ≤ 7 * xs.length := Int.mul_le_mul_of_nonneg_right (by omega) (by omega)
        exact wrap64_in (by omega) (by omega)
      rw [e]
      exact ih (c + 1) (by omega)

theorem class_Need_loop1 {w0 : World} {A : Option Addr} {xs : List Int} {cap g : Nat} {K : Value → World → Prop} (hx : Cs w0 A (nums .i64 xs)) (hl : xs.length ≤ 100000000000000) (hg : w0.heap.size ≤ g)
    (hK : ∀ w, Below w0.heap.size w0 w → K (.int .i64 (clsNeed xs)) w) : ∀ (d k : Nat) (w : World), k + d = xs.length → Below w0.heap.size w0 w → Blk w g Ty.a7_int (cnts (xs.take k)) →
    class_Need.l0 K (d + 1) ⟨g, 0, none⟩ (big (xs.take k)) A xs.length cap xs.length k w := by
  intro d
  induction d with
  | zero =>
    intro k w hk hb hB
    rw [class_Need.l0_succ]
    refine cond_dec (fun h => by omega) (fun _ => ?_)
    rw [List.take_of_length_le (by omega)] at hB ⊢
    refine ⟨_, hB.cell' rfl, _, hB.cell' rfl, _, hB.cell' rfl, _, hB.cell' rfl, _, hB.cell' rfl, _, hB.cell' rfl, _, hB.cell' rfl, 8, ?_⟩
    exact class_Need_loop2 hl (hK w hb) 7 0 rfl
  | succ d ih =>
    intro k w hk hb hB
    rw [class_Need.l0_succ]
    refine cond_dec (fun _ => ?_) (fun h => absurd h (by omega))
    have hlt : k < xs.length := by omega
    have hxk : xs[k]? = some xs[k] := List.getElem?_eq_getElem hlt
    obtain ⟨a, rfl, hc⟩ := (hx.below hb).at (nums_at hxk)
    refine ⟨⟨by omega, by omega⟩, a, rfl, xs[k], hc, class_Of_c ⟨_, rfl, ?_⟩⟩
    have hr := clsOf_range xs[k]
    have hts := take_snoc hxk
    have hbr := big_range (xs.take k)
    have hbr1 := big_range (xs.take (k + 1))
    have hkl : (xs.take (k + 1)).length ≤ 100000000000000 := by rw [List.length_take]; omega
    have W : IntKind.wrap .i64 ((k : Int) + 1) = ((k + 1 : Nat) : Int) := by rw [wrap64_in (by omega) (by omega)]; rfl
    have large : ¬ (0 ≤ clsOf xs[k] ∧ clsOf xs[k] < 7) → CallsE Pg class_Pages.N #[.int .i64 xs[k]] w (fun v9 w10 => ∃ (n11 : Int), v9 = .int .i64 n11 ∧ class_Need.p9 (class_Need.l0 K (d + 1)) K ⟨g, 0, none⟩ (IntKind.wrap .i64 (big (xs.take k) + n11)) (some a) xs.length cap xs.length k w10) := by
      intro hn
      refine class_Pages_c ⟨_, rfl, ?_⟩
      have e : big (xs.take k) + clsPages xs[k] = big (xs.take (k + 1)) := by
        rw [hts, big_snoc]
        congr 1
        split
        · rfl
        · have : clsOf xs[k] = -1 := by omega
          unfold clsPages
          rw [if_pos (by omega)]
      show class_Need.l0 K (d + 1) _ _ _ _ _ _ (IntKind.wrap .i64 ((k : Int) + 1)) w
      rw [W, e, wrap64_in (x := big (xs.take (k + 1))) (by omega) (by omega)]
      refine ih (k + 1) w (by omega) hb ?_
      have : cnts (xs.take (k + 1)) = cnts (xs.take k) := by
        rw [hts]
        unfold cnts
        apply List.map_congr_left
        intro c hc
        rw [cntN_snoc, if_neg (by have := List.mem_range.1 hc; omega)]
        simp
      rw [this]; exact hB
    refine cond_dec (fun h0 => ?_) (fun h0 => ?_)
    · refine cond_dec (fun h7 => ?_) (fun h7 => large (by omega))
      obtain ⟨j, hj⟩ : ∃ j : Nat, clsOf xs[k] = j := ⟨(clsOf xs[k]).toNat, by omega⟩
      rw [hj] at h7 ⊢
      have hj7 : j < 7 := by omega
      have hcell : (cnts (xs.take k))[j]? = some (.int .i64 (cntN j (xs.take k) : Int)) := by simp [cnts, hj7]
      have hlen : (cnts (xs.take k)).length = 7 := by simp [cnts]
      have e0 : (⟨g, 0, none⟩ : Addr).add (j : Int).toNat = ⟨g, j, none⟩ := by rw [add_at]; simp
      rw [e0]
      refine ⟨⟨by omega, by omega⟩, _, hB.cell' hcell, ⟨by omega, by omega⟩, hB.canStore (by omega), ?_⟩
      show class_Need.l0 K (d + 1) _ _ _ _ _ _ (IntKind.wrap .i64 ((k : Int) + 1)) _
      have hcn := cntN_le j (xs.take k)
      have hkl' : (xs.take k).length ≤ 100000000000000 := by rw [List.length_take]; omega
      rw [W, wrap64_in (x := (cntN j (xs.take k) : Int) + 1) (by omega) (by omega)]
      have e1 : big (xs.take k) = big (xs.take (k + 1)) := by rw [hts, big_snoc, if_neg (by omega)]; omega
      rw [e1]
      refine ih (k + 1) _ (by omega) (hb.setCell hg _) ?_
      have hset := hB.set j (.int .i64 ((cntN j (xs.take k) : Int) + 1))
      have e2 : (cnts (xs.take k)).set j (.int .i64 ((cntN j (xs.take k) : Int) + 1)) = cnts (xs.take (k + 1)) := by
        have hv : Value.int .i64 ((cntN j (xs.take k) : Int) + 1) = (fun c : Nat => Value.int .i64 (cntN c (xs.take (k + 1)) : Int)) j := by
          simp only
          rw [hts, cntN_snoc, if_pos hj]
          simp
        unfold cnts
        rw [hv]
        refine map_set (f := fun c : Nat => Value.int .i64 (cntN c (xs.take k) : Int)) (f' := fun c : Nat => Value.int .i64 (cntN c (xs.take (k + 1)) : Int)) hj7 (fun i hi => ?_)
        rw [hts, cntN_snoc, if_neg (by omega)]
        simp
      rw [← e2]
      exact hset
    · exact large (by omega)
theorem class_Need_c {A : Option Addr} {xs : List Int} {n cap : Nat} {K : Value → World → Prop} {w : World} (hn : n = xs.length) (hx : Cs w A (nums .i64 xs)) (hl : xs.length ≤ 100000000000000)
    (hK : ∀ w', Below w.heap.size w w' → K (.int .i64 (clsNeed xs)) w') : CallsE Pg class_Need.N #[.slice A n cap] w K := by
  subst hn
  refine class_Need.ok (wlet_intro fun w1 h1 => ?_)
  subst h1
  refine ⟨xs.length + 1, ?_⟩
  exact class_Need_loop1 (g := w.heap.size) hx hl (Nat.le_refl _) hK xs.length 0 _ (by omega) ((Below.refl _ _).alloc (Nat.le_refl _) _) (Blk.new w _ _)

/-! the document's -/
theorem ref06_Need_loop3 {A : Option Addr} {xs : List Int} {cap : Nat} {K : Value → World → Prop} {w : World} (hx : Cs w A (nums .i64 xs)) (hl : xs.length ≤ 100000000000000) (p : Int) (hp0 : 0 ≤ p) (hp : p ≤ 700000000000000)
    (hK : K (.int .i64 (p + big xs)) w) : ∀ (d k : Nat), k + d = xs.length → ref06_Need.l2 K (d + 1) A xs.length cap (p + big (xs.take k)) xs.length k w := by
  intro d
  induction d with
  | zero =>
    intro k hk
    rw [ref06_Need.l2_succ]
    refine cond_dec (fun h => by omega) (fun _ => ?_)
    rw [List.take_of_length_le (by omega)]
    exact hK
  | succ d ih =>
    intro k hk
    rw [ref06_Need.l2_succ]
    refine cond_dec (fun _ => ?_) (fun h => absurd h (by omega))
    have hlt : k < xs.length := by omega
    have hxk : xs[k]? = some xs[k] := List.getElem?_eq_getElem hlt
    obtain ⟨a, rfl, hc⟩ := hx.at (nums_at hxk)
    have hts := take_snoc hxk
    have hbr1 := big_range (xs.take (k + 1))
    have hbr := big_range (xs.take k)
    have hkl : (xs.take (k + 1)).length ≤ 100000000000000 := by rw [List.length_take]; omega
    have W : IntKind.wrap .i64 ((k : Int) + 1) = ((k + 1 : Nat) : Int) := by rw [wrap64_in (by omega) (by omega)]; rfl
    refine ⟨⟨by omega, by omega⟩, a, rfl, xs[k], hc, ref06_Of_c ⟨_, rfl, ?_⟩⟩
    refine cond_eq (fun h7 => ?_) (fun h7 => ?_)
    · refine ⟨⟨by omega, by omega⟩, a, rfl, xs[k], hc, ref06_Pages_c ⟨_, rfl, ?_⟩⟩
      have e : p + big (xs.take k) + clsPages xs[k] = p + big (xs.take (k + 1)) := by rw [hts, big_snoc, if_pos h7]; omega
      show ref06_Need.l2 K (d + 1) _ _ _ _ _ (IntKind.wrap .i64 ((k : Int) + 1)) w
      rw [W, e, wrap64_in (x := p + big (xs.take (k + 1))) (by omega) (by omega)]
      exact ih (k + 1) (by omega)
    · have e : p + big (xs.take k) = p + big (xs.take (k + 1)) := by rw [hts, big_snoc, if_neg h7]; omega
      show ref06_Need.l2 K (d + 1) _ _ _ _ _ (IntKind.wrap .i64 ((k : Int) + 1)) w
      rw [W, e]
      exact ih (k + 1) (by omega)
theorem ref06_Need_loop1 {L0 : Option Addr → Nat → Nat → Int → Int → World → Prop} {A : Option Addr} {xs : List Int} {cap : Nat} {K : Value → World → Prop} {w : World} (hx : Cs w A (nums .i64 xs)) (hl : xs.length ≤ 100000000000000) (p : Int) (c : Nat) (hc7 : c < 7)
    (hK : L0 A xs.length cap (IntKind.wrap .i64 (p + up (cntN c xs) (clsSlots c))) (IntKind.wrap .i64 ((c : Int) + 1)) w) : ∀ (d k : Nat), k + d = xs.length → ref06_Need.l1 L0 K (d + 1) A xs.length cap p c (cntN c (xs.take k)) xs.length k w := by
  intro d
  induction d with
  | zero =>
    intro k hk
    rw [ref06_Need.l1_succ]
    refine cond_dec (fun h => by omega) (fun _ => ?_)
    rw [List.take_of_length_le (by omega)]
    have hs := slots_range hc7
    have hcn := cntN_le c xs
    refine ref06_Slots_c ⟨_, rfl, ref06_Slots_c ⟨_, rfl, by omega, ?_⟩⟩
    rw [need_up (by omega) hs.1 hs.2 (by omega)]
    exact hK
  | succ d ih =>
    intro k hk
    rw [ref06_Need.l1_succ]
    refine cond_dec (fun _ => ?_) (fun h => absurd h (by omega))
    have hlt : k < xs.length := by omega
    have hxk : xs[k]? = some xs[k] := List.getElem?_eq_getElem hlt
    obtain ⟨a, rfl, hc⟩ := hx.at (nums_at hxk)
    have hts := take_snoc hxk
    have hcn := cntN_le c (xs.take k)
    have hkl' : (xs.take k).length ≤ 100000000000000 := by rw [List.length_take]; omega
    have W : IntKind.wrap .i64 ((k : Int) + 1) = ((k + 1 : Nat) : Int) := by rw [wrap64_in (by omega) (by omega)]; rfl
    refine ⟨⟨by omega, by omega⟩, a, rfl, xs[k], hc, ref06_Of_c ⟨_, rfl, ?_⟩⟩
    refine cond_eq (fun h7 => ?_) (fun h7 => ?_)
    · show ref06_Need.l1 L0 K (d + 1) _ _ _ _ _ (IntKind.wrap .i64 ((cntN c (xs.take k) : Int) + 1)) _ (IntKind.wrap .i64 ((k : Int) + 1)) w
      rw [W, wrap64_in (x := (cntN c (xs.take k) : Int) + 1) (by omega) (by omega)]
      have e : (cntN c (xs.take k) : Int) + 1 = (cntN c (xs.take (k + 1)) : Int) := by rw [hts, cntN_snoc, if_pos h7]; simp
      rw [e]
      exact ih (k + 1) (by omega)
    · show ref06_Need.l1 L0 K (d + 1) _ _ _ _ _ _ _ (IntKind.wrap .i64 ((k : Int) + 1)) w
      rw [W]
      have e : (cntN c (xs.take k) : Int) = (cntN c (xs.take (k + 1)) : Int) := by rw [hts, cntN_snoc, if_neg h7]; simp
      rw [e]
      exact ih (k + 1) (by omega)
theorem needTo_add (xs : List Int) (p : Int) : ∀ c, needTo xs p c = needTo xs 0 c + p
  | 0 => by simp [needTo]
  | c + 1 => by simp only [needTo]; rw [needTo_add xs p c]; omega
theorem ref06_Need_loop0 {A : Option Addr} {xs : List Int} {cap : Nat} {K : Value → World → Prop} {w : World} (hx : Cs w A (nums .i64 xs)) (hl : xs.length ≤ 100000000000000) (hK : K (.int .i64 (clsNeed xs)) w) : ∀ (d c : Nat), c + d = 7 →
    ref06_Need.l0 K (d + 1) A xs.length cap (needTo xs 0 c) c w := by
  intro d
  induction d with
  | zero =>
    intro c hc
    obtain rfl : c = 7 := by omega
    rw [ref06_Need.l0_succ]
    refine cond_dec (fun h => by omega) (fun _ => ?_)
    refine ⟨xs.length + 1, ?_⟩
    have hn := needTo_range xs 0 (by omega) 7 (by omega)
    have := ref06_Need_loop3 (cap := cap) hx hl (needTo xs 0 7) hn.1 (by omega) (by
      unfold clsNeed at hK
      rw [needTo_add] at hK
      exact hK) xs.length 0 (by omega)
    simpa [big] using this
  | succ d ih =>
    intro c hc
    rw [ref06_Need.l0_succ]
    refine cond_dec (fun _ => ?_) (fun h => absurd h (by omega))
    refine ⟨xs.length + 1, ?_⟩
    have hn1 := needTo_range xs 0 (by omega) (c + 1) (by omega)
    have h7 : ((c + 1 : Nat) : Int) * xs.length ≤ 7 * xs.length := Int.mul_le_mul_of_nonneg_right (by omega) (by omega)
    have e1 : needTo xs 0 c + up (cntN c xs) (clsSlots c) = needTo xs 0 (c + 1) := rfl
    have W : IntKind.wrap .i64 ((c : Int) + 1) = ((c + 1 : Nat) : Int) := by rw [wrap64_in (by omega) (by omega)]; rfl
    exact ref06_Need_loop1 (L0 := ref06_Need.l0 K (d + 1)) hx hl (needTo xs 0 c) c (by omega) (by
      rw [e1, W, wrap64_in (x := needTo xs 0 (c + 1)) (by omega) (by omega)]
      exact ih (c + 1) (by omega)) xs.length 0 (by omega)
theorem ref06_Need_c {A : Option Addr} {xs : List Int} {n cap : Nat} {K : Value → World → Prop} {w : World} (hn : n = xs.length) (hx : Cs w A (nums .i64 xs)) (hl : xs.length ≤ 100000000000000)
    (hK : K (.int .i64 (clsNeed xs)) w) : CallsE Pg ref06_Need.N #[.slice A n cap] w K := by
  subst hn
  exact ref06_Need.ok ⟨8, ref06_Need_loop0 hx hl hK 7 0 rfl⟩
/-! ### the laws of layer 6 -/
theorem law06_alive_c {K : Value → World → Prop} {w : World} (h : ∀ w', Below w.heap.size w w' → K (.bool true) w') : CallsE Pg law06_alive.N #[] w K := by
  refine law06_alive.ok (class_Of_c ⟨_, rfl, cond_eq (fun _ => ?_) (fun h => absurd (by decide) h)⟩)
  refine class_Of_c ⟨_, rfl, cond_eq (fun _ => ?_) (fun h => absurd (by decide) h)⟩
  refine class_Slots_c ⟨_, rfl, cond_eq (fun _ => ?_) (fun h => absurd (by decide) h)⟩
  refine class_Pages_c ⟨_, rfl, cond_eq (fun _ => ?_) (fun h => absurd (by decide) h)⟩
  refine wlet_intro fun w1 h1 => ?_
  subst h1
  refine class_Need_c (xs := [24, 300]) rfl (Cs.of_blk0 (Blk.new w _ _)) (by decide) fun w' hb => ⟨_, rfl, ?_⟩
  exact h w' (((Below.refl _ w).alloc (Nat.le_refl _) _).trans (hb.mono (by simp)))
theorem law_ClassOf (w : World) (n : Int) (hn : (Lit.int .i64 n).wf = true) : CallsE Pg law06_ClassOf.N #[.int .i64 n] w (fun v w' => v = .bool true ∧ Below w.heap.size w w') := by
  refine law06_ClassOf.ok (law06_alive_c fun w' hb => ⟨_, rfl, ?_⟩)
  refine class_Of_c ⟨_, rfl, ref06_Of_c ⟨_, rfl, ?_⟩⟩
  exact ⟨by simp, hb⟩

end Go.Proofs.Ytemcmkhkbbjehaa.C
