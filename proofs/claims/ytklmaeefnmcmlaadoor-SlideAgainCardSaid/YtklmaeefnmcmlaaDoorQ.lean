/-
  Parts of the proofs of this seat: what the functions compute. No condition beyond what each theorem states.
-/
import Derived.Test.YtklmaeefnmcmlaaDoorF
import Derived.Test.YtklmaeefnmcmlaaDoorRK
import Derived.Test.YtklmaeefnmcmlaaDoorA
import Derived.Test.YtklmaeefnmcmlaaDoorB
import Derived.Test.YtklmaeefnmcmlaaDoorC
import Derived.Test.YtklmaeefnmcmlaaDoorD
import Derived.Test.YtklmaeefnmcmlaaDoorE
import Derived.Test.YtklmaeefnmcmlaaDoorG
import Derived.Test.YtklmaeefnmcmlaaDoorH
import Derived.Test.YtklmaeefnmcmlaaDoorI
import Derived.Test.YtklmaeefnmcmlaaDoorJ
import Derived.Test.YtklmaeefnmcmlaaDoorK
import Derived.Test.YtklmaeefnmcmlaaDoorL
import Derived.Test.YtklmaeefnmcmlaaDoorM
import Derived.Test.YtklmaeefnmcmlaaDoorO
import Derived.Test.YtklmaeefnmcmlaaDoorP
set_option linter.unusedVariables false
set_option linter.unusedSimpArgs false
set_option maxRecDepth 100000
namespace Go.Proofs.YtklmaeefnmcmlaaDoor.C
open Go Go.RowKit Go.Proofs.YtklmaeefnmcmlaaDoor Go.Proofs.YtklmaeefnmcmlaaDoor.Sh Go.Proofs.YtklmaeefnmcmlaaDoor.F Go.Proofs.YtklmaeefnmcmlaaDoor.R

/-! ### what a plan comes to -/
theorem stX_same {N : Nat} {X : Nat → SpC} : ∀ (c i : Nat), (stX N X c i).cl = (X i).cl ∧ (stX N X c i).pg = (X i).pg ∧ (stX N X c i).pgs = (X i).pgs ∧ (stX N X c i).sz = (X i).sz ∧ (stX N X c i).n = (X i).n
  | 0, _ => ⟨rfl, rfl, rfl, rfl, rfl⟩
  | c + 1, i => by
    obtain ⟨h1, h2, h3, h4, h5⟩ := stX_same (N := N) (X := X) c i
    obtain ⟨p1, p2, p3, p4, p5⟩ := @packX_cl (stX N X c) (cidx N (stX N X c) c) (slotsN c) (frmL N (stX N X c) c (slotsN c) 0).length (cidx N (stX N X c) c).length 0 i
    exact ⟨p1.trans h1, p2.trans h2, p3.trans h3, p4.trans h4, p5.trans h5⟩
theorem cidx_congr {N : Nat} {X Y : Nat → SpC} {of : Int} (h : ∀ i, i < N → (Y i).cl = (X i).cl) : cidx N Y of = cidx N X of := by
  unfold cidx
  refine List.filter_congr fun i hi => ?_
  rw [h i (List.mem_range.1 hi)]
theorem cidx_st {N c : Nat} {X : Nat → SpC} {of : Int} : cidx N (stX N X c) of = cidx N X of := cidx_congr fun i _ => (stX_same c i).1
theorem stX_lt {N : Nat} {X : Nat → SpC} : ∀ (c i : Nat), (c : Int) ≤ (X i).cl → stX N X c i = X i
  | 0, _, _ => rfl
  | c + 1, i, h => by
    have ih := stX_lt (N := N) (X := X) c i (by omega)
    rw [stX]
    unfold packX
    rw [if_neg (fun hm => by have := (cidx_mem.1 hm).2; rw [(stX_same c i).1] at this; omega), ih]
theorem frmL_congr {N n k : Nat} {X Y : Nat → SpC} {of : Int} (hi : cidx N Y of = cidx N X of) (h : ∀ i, i ∈ cidx N X of → Y i = X i) : frmL N Y of n k = frmL N X of n k := by
  unfold frmL
  rw [hi]
  have : ∀ i ∈ (cidx N X of).drop k, Y i = X i := fun i hm => h i (List.mem_of_mem_drop hm)
  generalize (cidx N X of).drop k = l at this
  induction l with
  | nil => rfl
  | cons a l ih =>
    rw [List.flatMap_cons, List.flatMap_cons, this a (by simp), ih (fun i hm => this i (by simp [hm]))]
theorem frmL_st {N c k : Nat} {X : Nat → SpC} {n : Nat} : frmL N (stX N X c) c n k = frmL N X c n k :=
  frmL_congr cidx_st fun i hm => stX_lt c i (by rw [(cidx_mem.1 hm).2]; exact Int.le_refl _)
/-- How many are live of a class. -/
def Tn (N : Nat) (X : Nat → SpC) (c : Nat) : Nat := (frmL N X c (slotsN c) 0).length
def fillS (n T j : Nat) : Nat → Bool := fun s => decide (s < n ∧ j * n + s < T)
theorem stS_end {n T K j : Nat} {S : Nat → Bool} (h : j < K) : stS n T K 0 j S = fillS n T j := funext fun s => by
  unfold stS fillS
  rw [decide_eq_false (p := K < j ∨ (j = K ∧ 0 ≤ s)) (by omega)]; simp
theorem stX_in {N : Nat} {X : Nat → SpC} {c' i j : Nat} (hj : (cidx N X c')[j]? = some i) : ∀ c, c' < c → stX N X c i = setS (X i) (fillS (slotsN c') (Tn N X c') j)
  | 0, h => by omega
  | c + 1, h => by
    obtain ⟨h1, h2, h3⟩ := cidx_at hj
    have hK := (List.getElem?_eq_some_iff.1 hj).1
    rw [stX]
    by_cases e : c' = c
    · subst e
      have hm : i ∈ cidx N (stX N X c') c' := by rw [cidx_st]; exact cidx_mem.2 ⟨h1, h2⟩
      have h0 : stX N X c' i = X i := stX_lt c' i (by rw [h2]; exact Int.le_refl _)
      unfold packX
      rw [if_pos hm, h0, cidx_st, frmL_st, h3, stS_end hK]; rfl
    · have ih := stX_in hj c (by omega)
      unfold packX
      rw [if_neg (fun hm => by have := (cidx_mem.1 hm).2; rw [(stX_same c i).1, h2] at this; omega), ih]
def classM (N : Nat) (X : Nat → SpC) (c : Nat) : List MvD := mvsL (dstP X (cidx N X c) (slotsN c) (clsSize c)) (clsSize c) 0 (frmL N X c (slotsN c) 0)
theorem dstP_congr {X Y : Nat → SpC} {idx : List Nat} {n : Nat} {sz : Int} (h : ∀ i, (Y i).pg = (X i).pg) : dstP Y idx n sz = dstP X idx n sz := funext fun c => by unfold dstP; rw [h]
theorem stM_succ {N c : Nat} {X : Nat → SpC} : stM N X (c + 1) = stM N X c ++ classM N X c := by
  rw [stM]
  unfold classM
  rw [cidx_st, frmL_st, dstP_congr fun i => (stX_same c i).2.1]
theorem stM_mem {N : Nat} {X : Nat → SpC} {m : MvD} : ∀ c, m ∈ stM N X c → ∃ c', c' < c ∧ m ∈ classM N X c'
  | 0, h => by cases h
  | c + 1, h => by
    rw [stM_succ] at h
    rcases List.mem_append.1 h with h | h
    · obtain ⟨c', h1, h2⟩ := stM_mem c h
      exact ⟨c', by omega, h2⟩
    · exact ⟨c, by omega, h⟩
theorem stM_nil {N : Nat} {X : Nat → SpC} : ∀ c, (∀ c', c' < c → classM N X c' = []) → stM N X c = []
  | 0, _ => rfl
  | c + 1, h => by rw [stM_succ, stM_nil c (fun c' hc => h c' (by omega)), h c (by omega)]; rfl
/-! order -/
def Ord (N : Nat) (X : Nat → SpC) : Prop := ∀ i i', i < i' → i' < N → (X i).pg + (X i).pgs ≤ (X i').pg
theorem rightS_pair {pages : Int} : ∀ (D : List SpD) (e : Int), e ≤ pages → rightS pages e D = true → ∀ (i i' : Nat) (d d' : SpD), i < i' → D[i]? = some d → D[i']? = some d' → d.pg + pagesOf d.cl d.size ≤ d'.pg
  | [], _, _, _, i, i', d, d', _, hd, _ => by simp at hd
  | x :: D, e, he, hr, i, i', d, d', hlt, hd, hd' => by
    have h0 := hr
    rw [rightS] at hr
    by_cases hb : ofErr x.pg x.cl x.size x.live ≠ 0 ∨ x.pg < e ∨ pages < x.pg + pagesOf x.cl x.size
    · rw [if_pos hb] at hr; cases hr
    rw [if_neg hb] at hr
    cases i' with
    | zero => omega
    | succ i' =>
      rw [List.getElem?_cons_succ] at hd'
      cases i with
      | zero =>
        rw [List.getElem?_cons_zero] at hd
        cases hd
        exact ((rightS_len D _ (by omega) hr).2 d' (List.mem_of_getElem? hd')).2.1
      | succ i =>
        rw [List.getElem?_cons_succ] at hd
        exact rightS_pair D _ (by omega) hr i i' d d' (by omega) hd hd'
theorem X0_ord {pages : Int} {D : List SpD} (h : rightP pages D = true) : Ord D.length (X0 D) := fun i i' hlt hi' => by
  obtain ⟨h1, h2, h3, h4⟩ := rightP_ok h
  unfold rightP at h
  rw [if_neg (by omega)] at h
  have a : D[i]? = some D[i] := List.getElem?_eq_getElem (by omega)
  have b : D[i']? = some D[i'] := List.getElem?_eq_getElem hi'
  rw [X0_at a, X0_at b]
  exact rightS_pair D 0 (by omega) h i i' _ _ hlt a b
theorem st_ord {N c : Nat} {X : Nat → SpC} (h : Ord N X) : Ord N (stX N X c) := fun i i' hlt hi' => by
  rw [(stX_same c i).2.1, (stX_same c i).2.2.1, (stX_same c i').2.1]
  exact h i i' hlt hi'
theorem mvsL_mem {dst : Nat → Int} {sz : Int} {m : MvD} : ∀ (l : List Int) (c : Nat), m ∈ mvsL dst sz c l → ∃ q f, l[q]? = some f ∧ f ≠ dst (c + q) ∧ m = ⟨f, dst (c + q), sz⟩
  | [], _, h => by cases h
  | f :: l, c, h => by
    rw [mvsL] at h
    rcases List.mem_append.1 h with h | h
    · split at h
      · rename_i hne
        rw [List.mem_singleton.1 h]
        exact ⟨0, f, rfl, hne, rfl⟩
      · cases h
    · obtain ⟨q, f', h1, h2, h3⟩ := mvsL_mem l (c + 1) h
      have e : c + 1 + q = c + (q + 1) := by omega
      rw [e] at h2 h3
      exact ⟨q + 1, f', by rw [List.getElem?_cons_succ]; exact h1, h2, h3⟩
theorem frm_at {x : SpC} : ∀ (d t q : Nat) (f : Int), (frm x t d)[q]? = some f → ∃ s, t ≤ s ∧ s < t + d ∧ x.S s = true ∧ f = x.pg * 256 + (s : Int) * x.sz ∧ t + q ≤ s
  | 0, t, q, f, h => by simp [frm, memL] at h
  | d + 1, t, q, f, h => by
    cases hs : x.S t with
    | false =>
      rw [frm_no hs] at h
      obtain ⟨s, h1, h2, h3, h4, h5⟩ := frm_at d (t + 1) q f h
      exact ⟨s, by omega, by omega, h3, h4, by omega⟩
    | true =>
      rw [frm_yes hs] at h
      cases q with
      | zero =>
        rw [List.getElem?_cons_zero] at h
        cases h
        exact ⟨t, by omega, by omega, hs, rfl, by omega⟩
      | succ q =>
        rw [List.getElem?_cons_succ] at h
        obtain ⟨s, h1, h2, h3, h4, h5⟩ := frm_at d (t + 1) q f h
        exact ⟨s, by omega, by omega, h3, h4, by omega⟩
theorem frmL_at {N n : Nat} {X : Nat → SpC} {of : Int} : ∀ (d k q : Nat) (f : Int), k + d = (cidx N X of).length → (frmL N X of n k)[q]? = some f → ∃ j i s, k ≤ j ∧ (cidx N X of)[j]? = some i ∧ s < n ∧ (X i).S s = true ∧ f = (X i).pg * 256 + (s : Int) * (X i).sz ∧ k * n + q ≤ j * n + s
  | 0, k, q, f, hk, h => by
    unfold frmL at h
    rw [List.drop_of_length_le (by omega)] at h
    simp at h
  | d + 1, k, q, f, hk, h => by
    have hi : (cidx N X of)[k]? = some ((cidx N X of)[k]'(by omega)) := List.getElem?_eq_getElem (by omega)
    rw [frmL_cons hi] at h
    have hl := @frm_len (X ((cidx N X of)[k]'(by omega))) 0 n
    by_cases hq : q < (frm (X ((cidx N X of)[k]'(by omega))) 0 n).length
    · rw [List.getElem?_append_left hq] at h
      obtain ⟨s, _, h2, h3, h4, h5⟩ := frm_at n 0 q f h
      exact ⟨k, _, s, Nat.le_refl _, hi, by omega, h3, h4, by omega⟩
    · rw [List.getElem?_append_right (by omega)] at h
      obtain ⟨j, i, s, h1, h2, h3, h4, h5, h6⟩ := frmL_at d (k + 1) _ f (by omega) h
      refine ⟨j, i, s, by omega, h2, h3, h4, h5, ?_⟩
      rw [Nat.succ_mul] at h6
      omega
/-- What is known of the sizes of a class. -/
theorem cls_mul {c : Nat} (h : c < 7) : (slotsN c : Int) * clsSize c ≤ 256 := by
  have : c = 0 ∨ c = 1 ∨ c = 2 ∨ c = 3 ∨ c = 4 ∨ c = 5 ∨ c = 6 := by omega
  rcases this with rfl | rfl | rfl | rfl | rfl | rfl | rfl <;> decide
theorem cidx_mono {N : Nat} {X : Nat → SpC} {of : Int} {j j' i i' : Nat} (h : (cidx N X of)[j]? = some i) (h' : (cidx N X of)[j']? = some i') (hlt : j < j') : i < i' := by
  have hp : (cidx N X of).Pairwise (· < ·) := by
    unfold cidx
    exact List.Pairwise.filter _ List.pairwise_lt_range
  obtain ⟨h1, rfl⟩ := List.getElem?_eq_some_iff.1 h
  obtain ⟨h2, rfl⟩ := List.getElem?_eq_some_iff.1 h'
  exact List.pairwise_iff_getElem.1 hp j j' h1 h2 hlt
theorem class_down {N : Nat} {X : Nat → SpC} (hG : Good N X) (hO : Ord N X) {c : Nat} (hc : c < 7) {m : MvD} (hm : m ∈ classM N X c) : m.to < m.fr ∧ 0 ≤ m.to ∧ 1 ≤ m.len := by
  obtain ⟨⟨n1, n2⟩, z1, z2⟩ := cls_range (of := (c : Int)) (by omega) (by omega)
  obtain ⟨q, f, h1, h2, rfl⟩ := mvsL_mem _ 0 hm
  rw [Nat.zero_add] at h2 ⊢
  obtain ⟨j, i, s, _, k2, k3, k4, k5, k6⟩ := frmL_at (cidx N X c).length 0 q f (by omega) h1
  rw [Nat.zero_mul, Nat.zero_add] at k6
  obtain ⟨iN, ic, _⟩ := cidx_at k2
  have hd := div_le (n := slotsN c) k6 k3
  have hj := (List.getElem?_eq_some_iff.1 k2).1
  have hi2 : (cidx N X c)[q / slotsN c]? = some ((cidx N X c)[q / slotsN c]'(by omega)) := List.getElem?_eq_getElem (by omega)
  generalize (cidx N X c)[q / slotsN c]'(by omega) = i2 at hi2
  obtain ⟨i2N, i2c, _⟩ := cidx_at hi2
  have ed : dstP X (cidx N X c) (slotsN c) (clsSize c) q = (X i2).pg * 256 + ((q % slotsN c : Nat) : Int) * clsSize c := by
    unfold dstP
    rw [List.getD_eq_getElem?_getD, hi2]; rfl
  obtain ⟨_, _, gsz, gp0, gp1, _, _, gpg1, _⟩ := hG i iN
  have gsz := gsz (by omega)
  rw [ic] at gsz
  obtain ⟨_, _, _, hp0, _, _, _, hpg1, _⟩ := hG i2 i2N
  have hmod := Nat.mod_lt q (show 0 < slotsN c by omega)
  have hdm := @div_mod (slotsN c) q
  have hmul := cls_mul hc
  rw [ed] at h2 ⊢
  rw [gsz] at k5
  subst k5
  have m0 : (0 : Int) ≤ ((q % slotsN c : Nat) : Int) * clsSize c := Int.mul_nonneg (by omega) (by omega)
  have m1 : (0 : Int) ≤ (s : Int) * clsSize c := Int.mul_nonneg (by omega) (by omega)
  refine ⟨?_, by show 0 ≤ (X i2).pg * 256 + _; omega, by show 1 ≤ clsSize c; omega⟩
  show (X i2).pg * 256 + _ < (X i).pg * 256 + _
  by_cases e : q / slotsN c = j
  · have : i2 = i := by rw [e] at hi2; rw [hi2] at k2; exact Option.some.inj k2
    subst this
    rw [e] at hdm
    have hle : q % slotsN c ≤ s := by omega
    have : ((q % slotsN c : Nat) : Int) * clsSize c ≤ (s : Int) * clsSize c := Int.mul_le_mul_of_nonneg_right (by omega) (by omega)
    omega
  · have hlt := cidx_mono hi2 k2 (by omega)
    have := hO i2 i hlt iN
    have : ((q % slotsN c : Nat) : Int) * clsSize c < (slotsN c : Int) * clsSize c := Int.mul_lt_mul_of_pos_right (by omega) (by omega)
    omega
theorem fin_down {N : Nat} {X : Nat → SpC} (hG : Good N X) (hO : Ord N X) {m : MvD} : ∀ (d i : Nat) (page : Int), i + d = N → 0 ≤ page → (∀ i', i ≤ i' → i' < N → page ≤ (X i').pg) → m ∈ finM X i d page → m.to < m.fr ∧ 0 ≤ m.to ∧ 1 ≤ m.len
  | 0, _, _, _, _, _, h => by cases h
  | d + 1, i, page, hi, h0, hp, h => by
    have hg := hG i (by omega)
    have hpi := hp i (Nat.le_refl _) (by omega)
    rw [finM] at h
    split at h
    · exact fin_down hG hO d (i + 1) page (by omega) h0 (fun i' h1 h2 => hp i' (by omega) h2) h
    · rcases List.mem_append.1 h with h | h
      · split at h
        · rw [List.mem_singleton.1 h]
          exact ⟨by show page * 256 < (X i).pg * 256; omega, by show 0 ≤ page * 256; omega, by show 1 ≤ (X i).pgs * 256; omega⟩
        · cases h
      · exact fin_down hG hO d (i + 1) _ (by omega) (by omega) (fun i' h1 h2 => by have := hO i i' (by omega) h2; omega) h
theorem plan_down {pages : Int} {D : List SpD} (h : rightP pages D = true) : ∀ m ∈ planM D, m.to < m.fr ∧ 0 ≤ m.to ∧ 1 ≤ m.len := fun m hm => by
  have hG := X0_good h
  have hO := X0_ord h
  unfold planM at hm
  rcases List.mem_append.1 hm with hm | hm
  · obtain ⟨c, hc, hm⟩ := stM_mem 7 hm
    exact class_down hG hO hc hm
  · exact fin_down (stX_good hG 7) (st_ord hO) D.length 0 0 (by omega) (by decide) (fun i' _ h2 => by rw [(stX_same 7 i').2.1]; exact (hG i' h2).2.2.2.1) hm

end Go.Proofs.YtklmaeefnmcmlaaDoor.C
