/-
  Parts of the proofs of this seat: what the functions compute. No condition beyond what each theorem states.
-/
import Derived.Test.YtklmaeefnmcmlaaDoorF
import Derived.Test.YtklmaeefnmcmlaaDoorRK
import Derived.Test.YtklmaeefnmcmlaaDoorA
import Derived.Test.YtklmaeefnmcmlaaDoorB
import Derived.Test.YtklmaeefnmcmlaaDoorC
import Derived.Test.YtklmaeefnmcmlaaDoorD
import Derived.Test.YtklmaeefnmcmlaaDoorE
import Derived.Test.YtklmaeefnmcmlaaDoorG
set_option linter.unusedVariables false
set_option linter.unusedSimpArgs false
set_option maxRecDepth 100000
namespace Go.Proofs.YtklmaeefnmcmlaaDoor.C
open Go Go.RowKit Go.Proofs.YtklmaeefnmcmlaaDoor Go.Proofs.YtklmaeefnmcmlaaDoor.Sh Go.Proofs.YtklmaeefnmcmlaaDoor.F Go.Proofs.YtklmaeefnmcmlaaDoor.R

/-! ### spans slid together: plain -/
structure SpD where
  pg : Int
  cl : Int
  size : Int
  live : List Int
deriving DecidableEq
structure SpC where
  pg : Int
  pgs : Int
  cl : Int
  sz : Int
  n : Nat
  S : Nat → Bool
structure MvD where
  fr : Int
  to : Int
  len : Int
deriving DecidableEq
def MvD.cells (m : MvD) : List Value := [.int .i64 m.fr, .int .i64 m.to, .int .i64 m.len]
theorem MvD.cells_len (m : MvD) : m.cells.length = 3 := rfl
def spC (d : SpD) : SpC := ⟨d.pg, pagesOf d.cl d.size, d.cl, spSize d.cl d.size, slotsN d.cl, setL d.live⟩
/-- Of the j-th span of a class: what is taken where c slots are filled anew, and the old slots are asked from the k-th span's slot t on. -/
def stS (n c k t j : Nat) (S : Nat → Bool) : Nat → Bool := fun s => decide (s < n ∧ j * n + s < c) || (decide (k < j ∨ (j = k ∧ t ≤ s)) && S s)
theorem stS_0 {n j : Nat} {S : Nat → Bool} : stS n 0 0 0 j S = S := funext fun s => by
  unfold stS
  rw [decide_eq_false (by omega), decide_eq_true (by omega)]
  simp
theorem stS_next {n c k j : Nat} {S : Nat → Bool} (hS : Within S n) : stS n c k n j S = stS n c (k + 1) 0 j S := funext fun s => by
  unfold stS
  congr 1
  by_cases hs : s < n
  · congr 1
    exact decide_eq_decide.2 (by omega)
  · rw [hS s (by omega)]; simp
theorem stS_skip {n c k t j : Nat} {S : Nat → Bool} (h : j = k → S t = false) : stS n c k t j S = stS n c k (t + 1) j S := funext fun s => by
  unfold stS
  congr 1
  by_cases hj : j = k
  · by_cases hs : s = t
    · rw [hs, h hj]; simp
    · congr 1
      exact decide_eq_decide.2 (by omega)
  · congr 1
    exact decide_eq_decide.2 (by omega)
theorem stS_give {n c k t : Nat} {S : Nat → Bool} (hc : c ≤ k * n + t) : upd (stS n c k t k S) t false = stS n c k (t + 1) k S := funext fun s => by
  unfold upd stS
  by_cases hs : s = t
  · subst hs
    rw [if_pos rfl, decide_eq_false (by omega), decide_eq_false (by omega)]; rfl
  · rw [if_neg hs]
    congr 2
    exact decide_eq_decide.2 (by omega)
theorem stS_at {n c k t : Nat} {S : Nat → Bool} (hc : c ≤ k * n + t) : stS n c k t k S t = S t := by
  unfold stS
  rw [decide_eq_false (by omega), decide_eq_true (by omega)]; simp
theorem stS_within {n c k t j : Nat} {S : Nat → Bool} (hS : Within S n) : Within (stS n c k t j S) n := fun s hs => by
  unfold stS
  rw [hS s hs, decide_eq_false (by omega)]; simp
theorem div_le {n c k t : Nat} (hc : c ≤ k * n + t) (ht : t < n) : c / n ≤ k := by
  have : c < (k + 1) * n := by rw [Nat.succ_mul]; omega
  exact Nat.lt_succ_iff.1 (Nat.div_lt_of_lt_mul (by rw [Nat.mul_comm]; exact this))
theorem div_eq {n c j s : Nat} (hs : s < n) (h : j * n + s = c) : j = c / n ∧ s = c % n := by
  subst h
  have hn : 0 < n := by omega
  constructor
  · rw [Nat.add_comm, Nat.add_mul_div_right _ _ hn, Nat.div_eq_of_lt hs, Nat.zero_add]
  · rw [Nat.add_comm, Nat.add_mul_mod_self_right, Nat.mod_eq_of_lt hs]
theorem div_mod {n c : Nat} : c / n * n + c % n = c := by rw [Nat.mul_comm]; exact Nat.div_add_mod c n
theorem stS_low {n c k t s : Nat} {S : Nat → Bool} (hn : 0 < n) (hs : s < c % n) : stS n c k t (c / n) S s = true := by
  have := Nat.mod_lt c hn
  have := @div_mod n c
  unfold stS
  rw [decide_eq_true (by omega)]; rfl
theorem stS_free {n c k t : Nat} {S : Nat → Bool} (ht : t < n) (hc : c ≤ k * n + t) : stS n c k (t + 1) (c / n) S (c % n) = false := by
  have h1 := @div_mod n c
  have h2 := div_le hc ht
  unfold stS
  have hb : ¬ (k < c / n ∨ (c / n = k ∧ t + 1 ≤ c % n)) := fun h => by
    rcases h with h | ⟨h, h'⟩
    · omega
    · rw [h] at h1; omega
  rw [decide_eq_false (by omega), decide_eq_false hb]; rfl
theorem stS_take {n c k t : Nat} {S : Nat → Bool} (hn : 0 < n) : upd (stS n c k t (c / n) S) (c % n) true = stS n (c + 1) k t (c / n) S := funext fun s => by
  have h1 := @div_mod n c
  have h2 := Nat.mod_lt c hn
  unfold upd stS
  by_cases hs : s = c % n
  · rw [if_pos hs, decide_eq_true (by omega)]; rfl
  · rw [if_neg hs]
    congr 1
    exact decide_eq_decide.2 (by omega)
theorem stS_other {n c k t j : Nat} {S : Nat → Bool} (hj : j ≠ c / n) : stS n c k t j S = stS n (c + 1) k t j S := funext fun s => by
  unfold stS
  congr 1
  refine decide_eq_decide.2 ⟨fun h => ⟨h.1, by omega⟩, fun h => ⟨h.1, ?_⟩⟩
  by_cases he : j * n + s = c
  · exact absurd (div_eq h.1 he).1 hj
  · omega
theorem take_at {S : Nat → Bool} {n m : Nat} (h1 : ∀ s, s < m → S s = true) (h2 : S m = false) (h3 : m < n) : takeS S n = upd S m true ∧ takeV S n = ((m : Int), true) := by
  have hf : freeV S n = m := by
    unfold freeV
    have := nxt_skip (S := S) (want := false) (n := n) (g := m) m 0 (by omega) (fun j _ h => by rw [h1 j (by omega)]; decide)
    rw [Nat.sub_zero] at this
    rw [this]
    exact nxt_here (S := S) (want := false) h3 h2
  unfold takeS takeV
  rw [hf, if_neg (by omega), if_neg (by omega), Int.toNat_natCast]
  exact ⟨rfl, rfl⟩
theorem next_div {n c : Nat} (hn : 0 < n) : (c % n + 1 = n → (c + 1) / n = c / n + 1 ∧ (c + 1) % n = 0) ∧ (c % n + 1 ≠ n → (c + 1) / n = c / n ∧ (c + 1) % n = c % n + 1) := by
  have h1 := @div_mod n c
  have h2 := Nat.mod_lt c hn
  constructor
  · intro h
    have := div_eq (n := n) (c := c + 1) (j := c / n + 1) (s := 0) hn (by rw [Nat.succ_mul]; omega)
    exact ⟨this.1.symm, this.2.symm⟩
  · intro h
    have := div_eq (n := n) (c := c + 1) (j := c / n) (s := c % n + 1) (by omega) (by omega)
    exact ⟨this.1.symm, this.2.symm⟩
/-- Where the live slots of a span lie, from a slot on. -/
def frm (x : SpC) (t d : Nat) : List Int := (memL x.S t d).map fun s => x.pg * 256 + s * x.sz
def mvsL (dst : Nat → Int) (sz : Int) : Nat → List Int → List MvD
  | _, [] => []
  | c, f :: l => (if f ≠ dst c then [⟨f, dst c, sz⟩] else []) ++ mvsL dst sz (c + 1) l
theorem mvsL_len {dst : Nat → Int} {sz : Int} : ∀ (l : List Int) (c : Nat), (mvsL dst sz c l).length ≤ l.length
  | [], _ => Nat.le_refl _
  | f :: l, c => by
    have := mvsL_len (dst := dst) (sz := sz) l (c + 1)
    rw [mvsL, List.length_append, List.length_cons]
    split
    · simp only [List.length_cons, List.length_nil]; omega
    · simp only [List.length_nil]; omega
theorem mvsL_app {dst : Nat → Int} {sz : Int} : ∀ (a b : List Int) (c : Nat), mvsL dst sz c (a ++ b) = mvsL dst sz c a ++ mvsL dst sz (c + a.length) b
  | [], b, c => rfl
  | f :: a, b, c => by
    rw [List.cons_append, mvsL, mvsL, mvsL_app a b (c + 1), List.append_assoc, List.length_cons]
    congr 3
    omega
def cidx (N : Nat) (X : Nat → SpC) (of : Int) : List Nat := (List.range N).filter fun i => decide ((X i).cl = of)
def dstP (X : Nat → SpC) (idx : List Nat) (n : Nat) (sz : Int) (c : Nat) : Int := (X (idx.getD (c / n) 0)).pg * 256 + ((c % n : Nat) : Int) * sz
def setS (x : SpC) (S : Nat → Bool) : SpC := ⟨x.pg, x.pgs, x.cl, x.sz, x.n, S⟩
def setX (X : Nat → SpC) (i : Nat) (S : Nat → Bool) : Nat → SpC := fun j => if j = i then setS (X i) S else X j
theorem setX_same {X : Nat → SpC} {i : Nat} {S : Nat → Bool} : setX X i S i = setS (X i) S := if_pos rfl
theorem setX_other {X : Nat → SpC} {i j : Nat} {S : Nat → Bool} (h : j ≠ i) : setX X i S j = X j := if_neg h
def packX (X : Nat → SpC) (idx : List Nat) (n c k t : Nat) : Nat → SpC := fun i => if i ∈ idx then setS (X i) (stS n c k t (idx.idxOf i) (X i).S) else X i
theorem cidx_mem {N : Nat} {X : Nat → SpC} {of : Int} {i : Nat} : i ∈ cidx N X of ↔ i < N ∧ (X i).cl = of := by
  unfold cidx
  rw [List.mem_filter, List.mem_range, decide_eq_true_eq]
theorem cidx_nodup {N : Nat} {X : Nat → SpC} {of : Int} : (cidx N X of).Nodup := List.Pairwise.filter _ List.nodup_range
theorem cidx_at {N k i : Nat} {X : Nat → SpC} {of : Int} (h : (cidx N X of)[k]? = some i) : i < N ∧ (X i).cl = of ∧ (cidx N X of).idxOf i = k := by
  obtain ⟨hk, e⟩ := List.getElem?_eq_some_iff.1 h
  have hm : i ∈ cidx N X of := by rw [← e]; exact List.getElem_mem hk
  obtain ⟨h1, h2⟩ := cidx_mem.1 hm
  refine ⟨h1, h2, ?_⟩
  rw [← e]
  exact cidx_nodup.idxOf_getElem k hk
theorem cidx_succ {N : Nat} {X : Nat → SpC} {of : Int} : cidx (N + 1) X of = if (X N).cl = of then cidx N X of ++ [N] else cidx N X of := by
  unfold cidx
  rw [List.range_succ, List.filter_append]
  by_cases h : (X N).cl = of
  · rw [if_pos h, List.filter_cons_of_pos (by simpa using h)]; rfl
  · rw [if_neg h, List.filter_cons_of_neg (by simpa using h)]; simp
theorem cidx_len {N : Nat} {X : Nat → SpC} {of : Int} : (cidx N X of).length ≤ N := by
  unfold cidx
  exact Nat.le_trans (List.length_filter_le _ _) (by rw [List.length_range]; exact Nat.le_refl _)
theorem memL_lt {S : Nat → Bool} : ∀ (n b : Nat), ∀ x ∈ memL S b n, (b : Int) ≤ x ∧ x < b + n
  | 0, _ => fun x hx => by cases hx
  | n + 1, b => fun x hx => by
    have ih := memL_lt (S := S) n (b + 1) x
    rw [memL] at hx
    split at hx
    · rcases List.mem_cons.1 hx with h | h
      · omega
      · have := ih h; omega
    · have := ih hx; omega
theorem memL_I64 {S : Nat → Bool} {n : Nat} (hn : n ≤ 1000) : ∀ x ∈ memL S 0 n, I64 x := fun x hx => by
  have := memL_lt n 0 x hx
  exact ⟨by omega, by omega⟩

end Go.Proofs.YtklmaeefnmcmlaaDoor.C
