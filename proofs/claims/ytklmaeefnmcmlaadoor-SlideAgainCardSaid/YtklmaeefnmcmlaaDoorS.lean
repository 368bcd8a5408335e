/-
  Parts of the proofs of this seat: what the functions compute. No condition beyond what each theorem states.
-/
import Derived.Test.YtklmaeefnmcmlaaDoorF
import Derived.Test.YtklmaeefnmcmlaaDoorRK
import Derived.Test.YtklmaeefnmcmlaaDoorA
import Derived.Test.YtklmaeefnmcmlaaDoorB
import Derived.Test.YtklmaeefnmcmlaaDoorC
import Derived.Test.YtklmaeefnmcmlaaDoorD
import Derived.Test.YtklmaeefnmcmlaaDoorE
import Derived.Test.YtklmaeefnmcmlaaDoorG
import Derived.Test.YtklmaeefnmcmlaaDoorH
import Derived.Test.YtklmaeefnmcmlaaDoorI
import Derived.Test.YtklmaeefnmcmlaaDoorJ
import Derived.Test.YtklmaeefnmcmlaaDoorK
import Derived.Test.YtklmaeefnmcmlaaDoorL
import Derived.Test.YtklmaeefnmcmlaaDoorM
import Derived.Test.YtklmaeefnmcmlaaDoorO
import Derived.Test.YtklmaeefnmcmlaaDoorP
import Derived.Test.YtklmaeefnmcmlaaDoorQ
set_option linter.unusedVariables false
set_option linter.unusedSimpArgs false
set_option maxRecDepth 100000
namespace Go.Proofs.YtklmaeefnmcmlaaDoor.C
open Go Go.RowKit Go.Proofs.YtklmaeefnmcmlaaDoor Go.Proofs.YtklmaeefnmcmlaaDoor.Sh Go.Proofs.YtklmaeefnmcmlaaDoor.F Go.Proofs.YtklmaeefnmcmlaaDoor.R

/-! ### a plan's spans are slid no more -/
theorem new_mono {pg cl size page : Int} (h : newErr pg cl size = 0) (h0 : 0 ≤ page) (h1 : page ≤ pg) : newErr page cl size = 0 := by
  unfold newErr at h ⊢
  by_cases a : cl < 0 ∨ 7 < cl
  · rw [if_pos a] at h; cases h
  rw [if_neg a] at h ⊢
  by_cases b : (cl < 7 ∧ size ≠ 0) ∨ (cl = 7 ∧ clsOf size ≠ 7)
  · rw [if_pos b] at h; cases h
  rw [if_neg b] at h ⊢
  by_cases c : pg < 0 ∨ 4096 - pagesOf cl size < pg
  · rw [if_pos c] at h; cases h
  rw [if_neg (by omega)]
theorem size_back {pg cl size : Int} (h : newErr pg cl size = 0) : dSize cl (spSize cl size) = size := by
  have := (new_ok h).2.2.2.2.2.2.2.2.2.2.2
  unfold dSize spSize
  by_cases h7 : cl = 7
  · rw [if_pos h7, if_pos h7]
  · rw [if_neg h7, this h7]
/-- Where spans come from. -/
def Src (N : Nat) (X : Nat → SpC) : Prop := ∀ i, i < N → newErr (X i).pg (X i).cl (dSize (X i).cl (X i).sz) = 0 ∧ (X i).pgs = pagesOf (X i).cl (dSize (X i).cl (X i).sz) ∧ (X i).n = slotsN (X i).cl
theorem X0_src {D : List SpD} (h : ∀ d ∈ D, ofErr d.pg d.cl d.size d.live = 0) : Src D.length (X0 D) := fun i hi => by
  have hd : D[i]? = some D[i] := List.getElem?_eq_getElem hi
  obtain ⟨n0, _⟩ := of_parts (h _ (List.getElem_mem hi))
  rw [X0_at hd]
  show newErr D[i].pg D[i].cl (dSize D[i].cl (spSize D[i].cl D[i].size)) = 0 ∧ pagesOf D[i].cl D[i].size = pagesOf D[i].cl (dSize D[i].cl (spSize D[i].cl D[i].size)) ∧ slotsN D[i].cl = slotsN D[i].cl
  rw [size_back n0]
  exact ⟨n0, rfl, rfl⟩
theorem st_src {N c : Nat} {X : Nat → SpC} (h : Src N X) : Src N (stX N X c) := fun i hi => by
  obtain ⟨p1, p2, p3, p4, p5⟩ := stX_same (N := N) (X := X) c i
  rw [p1, p2, p3, p4, p5]
  exact h i hi
def Cont : Int → List SpD → Prop
  | _, [] => True
  | page, d :: D => d.pg = page ∧ d.live ≠ [] ∧ ofErr d.pg d.cl d.size d.live = 0 ∧ Cont (page + pagesOf d.cl d.size) D
theorem fin_right {N : Nat} {X : Nat → SpC} {pages : Int} (hS : Src N X) (hO : Ord N X) (hp : ∀ i, i < N → (X i).pg + (X i).pgs ≤ pages) : ∀ (d i : Nat) (page : Int), i + d = N → 0 ≤ page → (∀ i', i ≤ i' → i' < N → page ≤ (X i').pg) → rightS pages page (finL X i d page) = true ∧ Cont page (finL X i d page)
  | 0, _, _, _, _, _ => ⟨rfl, trivial⟩
  | d + 1, i, page, hi, h0, hq => by
    have hpi := hq i (Nat.le_refl _) (by omega)
    rw [finL]
    split
    · exact fin_right hS hO hp d (i + 1) page (by omega) h0 (fun i' h1 h2 => hq i' (by omega) h2)
    · rename_i hne
      obtain ⟨s1, s2, s3⟩ := hS i (by omega)
      have hpp := hp i (by omega)
      have hn := new_mono s1 h0 hpi
      have hr : riseV (slotsN (X i).cl) (-1) (memL (X i).S 0 (X i).n) = true := by rw [s3]; exact rise_mem _ 0 (-1) (by decide) (by omega)
      have ho : ofErr page (X i).cl (dSize (X i).cl (X i).sz) (memL (X i).S 0 (X i).n) = 0 := by
        unfold ofErr
        rw [if_neg (fun h => h hn), hr]; rfl
      have h1p := (new_ok hn).2.2.2.1
      obtain ⟨i1, i2⟩ := fin_right hS hO hp d (i + 1) (page + (X i).pgs) (by omega) (by omega) (fun i' h1 h2 => by have := hO i i' (by omega) h2; omega)
      constructor
      · rw [rightS]
        simp only
        rw [← s2, if_neg (by omega)]
        exact i1
      · refine ⟨rfl, fun e => hne ?_, ho, ?_⟩
        · have := congrArg List.length e
          rw [memL_len] at this
          exact this
        · show Cont (page + pagesOf (X i).cl (dSize (X i).cl (X i).sz)) _
          rw [← s2]; exact i2
theorem plan_right {pages : Int} {D : List SpD} (h : rightP pages D = true) : rightP pages (planL D) = true ∧ Cont 0 (planL D) := by
  obtain ⟨h1, h2, h3, h4⟩ := rightP_ok h
  have hS := st_src (c := 7) (X0_src fun d hd => (h4 d hd).1)
  have hO := st_ord (c := 7) (X0_ord h)
  have hG := X0_good h
  have := fin_right (pages := pages) hS hO (fun i hi => by
    rw [(stX_same 7 i).2.1, (stX_same 7 i).2.2.1]
    have hd : D[i]? = some D[i] := List.getElem?_eq_getElem hi
    rw [X0_at hd]
    exact (h4 _ (List.getElem_mem hi)).2.2) D.length 0 0 (by omega) (by decide) (fun i' _ h2 => by rw [(stX_same 7 i').2.1]; exact (hG i' h2).2.2.2.1)
  refine ⟨?_, this.2⟩
  unfold rightP
  rw [if_neg (by omega)]
  exact this.1
theorem cont_again {D : List SpD} : ∀ (d i : Nat) (page : Int), i + d = D.length → Cont page (D.drop i) → finL (X0 D) i d page = D.drop i ∧ finM (X0 D) i d page = []
  | 0, i, page, hi, _ => by rw [List.drop_of_length_le (by omega)]; exact ⟨rfl, rfl⟩
  | d + 1, i, page, hi, hc => by
    have hlt : i < D.length := by omega
    have hd : D[i]? = some D[i] := List.getElem?_eq_getElem hlt
    rw [List.drop_eq_getElem_cons hlt] at hc ⊢
    obtain ⟨c1, c2, c3, c4⟩ := hc
    obtain ⟨n0, n1⟩ := of_parts c3
    have hm : memL (setL D[i].live) 0 (slotsN D[i].cl) = D[i].live := mem_setL D[i].live 0 (Nat.zero_le _) n1
    have hne : ¬ cnt (setL D[i].live) 0 (slotsN D[i].cl) = 0 := fun e => by
      rw [← memL_len, hm] at e
      exact c2 (List.length_eq_zero_iff.1 e)
    obtain ⟨i1, i2⟩ := cont_again d (i + 1) (page + pagesOf D[i].cl D[i].size) (by omega) c4
    rw [finL, finM, X0_at hd]
    show (if cnt (setL D[i].live) 0 (slotsN D[i].cl) = 0 then _ else (⟨page, D[i].cl, dSize D[i].cl (spSize D[i].cl D[i].size), memL (setL D[i].live) 0 (slotsN D[i].cl)⟩ : SpD) :: finL (X0 D) (i + 1) d (page + pagesOf D[i].cl D[i].size)) = _ ∧ (if cnt (setL D[i].live) 0 (slotsN D[i].cl) = 0 then _ else (if D[i].pg ≠ page then _ else []) ++ finM (X0 D) (i + 1) d (page + pagesOf D[i].cl D[i].size)) = []
    rw [if_neg hne, if_neg hne, if_neg (fun h => h c1), i1, i2, hm, size_back n0, ← c1]
    exact ⟨rfl, rfl⟩
/-! tidy classes -/
def Tidy (N : Nat) (X : Nat → SpC) (c T : Nat) : Prop := T ≤ (cidx N X c).length * slotsN c ∧ ∀ j i, (cidx N X c)[j]? = some i → (X i).S = fillS (slotsN c) T j
theorem tidy_in {x : SpC} {n T k : Nat} {dst : Nat → Int} {sz : Int} (hS : x.S = fillS n T k) (hsz : x.sz = sz) (hd : ∀ s, s < n → dst (k * n + s) = x.pg * 256 + (s : Int) * sz) :
    ∀ (d s : Nat), s + d = n → min T (k * n + s) + (frm x s d).length = min T (k * n + n) ∧ mvsL dst sz (min T (k * n + s)) (frm x s d) = []
  | 0, s, h => by
    have e : s = n := by omega
    subst e
    exact ⟨rfl, rfl⟩
  | d + 1, s, h => by
    obtain ⟨i1, i2⟩ := tidy_in hS hsz hd d (s + 1) (by omega)
    have hs : x.S s = decide (k * n + s < T) := by
      rw [hS]; unfold fillS
      exact decide_eq_decide.2 (by omega)
    by_cases hlt : k * n + s < T
    · rw [decide_eq_true hlt] at hs
      have e1 : min T (k * n + s) = k * n + s := by omega
      have e2 : min T (k * n + (s + 1)) = k * n + s + 1 := by omega
      rw [frm_yes hs, e1]
      rw [e2] at i1 i2
      refine ⟨by rw [List.length_cons]; omega, ?_⟩
      rw [mvsL, hd s (by omega), hsz, if_neg (fun h => h rfl), List.nil_append]
      exact i2
    · rw [decide_eq_false hlt] at hs
      have e1 : min T (k * n + s) = T := by omega
      have e2 : min T (k * n + (s + 1)) = T := by omega
      rw [frm_no hs, e1]
      rw [e2] at i1 i2
      exact ⟨i1, i2⟩
theorem tidy_out {N c T : Nat} {X : Nat → SpC} (hG : Good N X) (hc : c < 7) (hT : Tidy N X c T) : ∀ (d k : Nat), k + d = (cidx N X c).length →
    min T (k * slotsN c) + (frmL N X c (slotsN c) k).length = T ∧ mvsL (dstP X (cidx N X c) (slotsN c) (clsSize c)) (clsSize c) (min T (k * slotsN c)) (frmL N X c (slotsN c) k) = []
  | 0, k, hk => by
    have e : frmL N X c (slotsN c) k = [] := by unfold frmL; rw [List.drop_of_length_le (by omega)]; rfl
    have e2 : k = (cidx N X c).length := by omega
    have := hT.1
    rw [← e2] at this
    rw [e]
    exact ⟨by simp; omega, rfl⟩
  | d + 1, k, hk => by
    obtain ⟨⟨n1, n2⟩, z1, z2⟩ := cls_range (of := (c : Int)) (by omega) (by omega)
    have hi : (cidx N X c)[k]? = some ((cidx N X c)[k]'(by omega)) := List.getElem?_eq_getElem (by omega)
    generalize (cidx N X c)[k]'(by omega) = i at hi
    obtain ⟨iN, ic, _⟩ := cidx_at hi
    have hsz := (hG i iN).2.2.1 (by omega)
    rw [ic] at hsz
    obtain ⟨a1, a2⟩ := tidy_in (dst := dstP X (cidx N X c) (slotsN c) (clsSize c)) (hT.2 k i hi) hsz (fun s hs => by
      obtain ⟨q1, q2⟩ := div_eq (n := slotsN c) (c := k * slotsN c + s) hs rfl
      unfold dstP
      rw [← q1, ← q2, List.getD_eq_getElem?_getD, hi]; rfl) (slotsN c) 0 (by omega)
    obtain ⟨b1, b2⟩ := tidy_out hG hc hT d (k + 1) (by omega)
    rw [Nat.add_zero] at a1 a2
    rw [Nat.succ_mul] at b1 b2
    rw [frmL_cons hi, mvsL_app, List.length_append, a2, List.nil_append, a1]
    exact ⟨by omega, b2⟩
theorem tidy_st {N : Nat} {X : Nat → SpC} (hG : Good N X) (hT : ∀ c, c < 7 → ∃ T, Tidy N X c T) : ∀ c, c ≤ 7 → stX N X c = X ∧ stM N X c = []
  | 0, _ => ⟨rfl, rfl⟩
  | c + 1, hc => by
    obtain ⟨i1, i2⟩ := tidy_st hG hT c (by omega)
    obtain ⟨T, hT'⟩ := hT c (by omega)
    obtain ⟨a1, a2⟩ := tidy_out hG (by omega) hT' (cidx N X c).length 0 (by omega)
    rw [Nat.zero_mul, Nat.min_zero] at a1 a2
    rw [Nat.zero_add] at a1
    constructor
    · rw [stX, i1, a1]
      refine funext fun i => ?_
      unfold packX
      split
      · rename_i hm
        have hj : (cidx N X c)[(cidx N X c).idxOf i]? = some i := by
          have hlt := List.idxOf_lt_length_of_mem hm
          rw [List.getElem?_eq_getElem hlt, List.getElem_idxOf hlt]
        rw [stS_end (List.idxOf_lt_length_of_mem hm), ← hT'.2 _ i hj]; rfl
      · rfl
    · rw [stM_succ, i2]
      unfold classM
      rw [a2]; rfl
/-! the spans that are left are tidy -/
def ccl (c : Int) (L : List SpD) : Nat := (L.filter fun d => decide (d.cl = c)).length
theorem ccl_cons {c : Int} {d : SpD} {L : List SpD} : ccl c (d :: L) = (if d.cl = c then 1 else 0) + ccl c L := by
  unfold ccl
  by_cases h : d.cl = c
  · rw [List.filter_cons_of_pos (by simpa using h), if_pos h, List.length_cons]; omega
  · rw [List.filter_cons_of_neg (by simpa using h), if_neg h]; omega
theorem cidx_rank {X : Nat → SpC} {of : Int} {i : Nat} : ∀ (N : Nat), i < N → (X i).cl = of → (cidx N X of)[(cidx i X of).length]? = some i
  | 0, h, _ => by omega
  | N + 1, h, hc => by
    rw [cidx_succ]
    by_cases e : i = N
    · subst e
      rw [if_pos hc, List.getElem?_append_right (Nat.le_refl _), Nat.sub_self]; rfl
    · have ih := cidx_rank N (by omega) hc
      split
      · rw [List.getElem?_append_left (List.getElem?_eq_some_iff.1 ih).1]; exact ih
      · exact ih
theorem fin_rank {N : Nat} {X : Nat → SpC} {c n T : Nat} (hn : 1 ≤ n) (hX : ∀ i, i < N → (X i).cl = (c : Int) → (X i).S = fillS n T (cidx i X c).length ∧ (X i).n = n) :
    ∀ (d i : Nat) (page : Int), i + d = N → ∀ (k : Nat) (e : SpD), (finL X i d page)[k]? = some e → e.cl = (c : Int) →
      e.live = memL (fillS n T ((cidx i X c).length + ccl c ((finL X i d page).take k))) 0 n ∧ ((cidx i X c).length + ccl c ((finL X i d page).take k)) * n < T
  | 0, i, page, hi, k, e, he, _ => by simp [finL] at he
  | d + 1, i, page, hi, k, e, he, hc => by
    rw [finL] at he ⊢
    by_cases hz : cnt (X i).S 0 (X i).n = 0
    · rw [if_pos hz] at he ⊢
      obtain ⟨i1, i2⟩ := fin_rank hn hX d (i + 1) page (by omega) k e he hc
      by_cases hcl : (X i).cl = (c : Int)
      · -- nothing of this class is left behind it
        exfalso
        obtain ⟨x1, x2⟩ := hX i (by omega) hcl
        have e1 : (cidx (i + 1) X c).length = (cidx i X c).length + 1 := by rw [cidx_succ, if_pos hcl]; simp
        rw [e1] at i2
        have hlt : (cidx i X c).length * n < T := by
          have : (cidx i X c).length * n ≤ ((cidx i X c).length + 1 + ccl c ((finL X (i + 1) d page).take k)) * n := Nat.mul_le_mul_right _ (by omega)
          omega
        rw [x1, x2] at hz
        have : cnt (fillS n T (cidx i X c).length) 0 n ≠ 0 := by
          rw [← memL_len]
          have : (0 : Int) ∈ memL (fillS n T (cidx i X c).length) 0 n := (mem_iff n 0 0).2 ⟨by omega, by omega, by unfold fillS; exact decide_eq_true ⟨by omega, by omega⟩⟩
          intro h0
          rw [List.length_eq_zero_iff.1 h0] at this
          cases this
        exact this hz
      · have e1 : cidx (i + 1) X c = cidx i X c := by rw [cidx_succ, if_neg hcl]
        rw [e1] at i1 i2
        exact ⟨i1, i2⟩
    · rw [if_neg hz] at he ⊢
      cases k with
      | zero =>
        rw [List.getElem?_cons_zero] at he
        cases he
        have hcl : (X i).cl = (c : Int) := hc
        obtain ⟨x1, x2⟩ := hX i (by omega) hcl
        have e0 : ccl c (List.take 0 ((⟨page, (X i).cl, dSize (X i).cl (X i).sz, memL (X i).S 0 (X i).n⟩ : SpD) :: finL X (i + 1) d (page + (X i).pgs))) = 0 := rfl
        rw [e0, Nat.add_zero]
        refine ⟨by show memL (X i).S 0 (X i).n = _; rw [x1, x2], ?_⟩
        by_cases hlt : (cidx i X c).length * n < T
        · exact hlt
        · exfalso
          apply hz
          rw [x1, x2, ← memL_len, memL_same n 0 (T := noneS) (fun s _ _ => by unfold fillS noneS; exact decide_eq_false (by omega)), memL_none]; rfl
      | succ k =>
        rw [List.getElem?_cons_succ] at he
        obtain ⟨i1, i2⟩ := fin_rank hn hX d (i + 1) (page + (X i).pgs) (by omega) k e he hc
        rw [List.take_succ_cons, ccl_cons]
        have e1 : (cidx (i + 1) X c).length = (cidx i X c).length + (if (X i).cl = (c : Int) then 1 else 0) := by
          rw [cidx_succ]
          split
          · simp
          · rfl
        rw [e1, Nat.add_assoc] at i1 i2
        exact ⟨i1, i2⟩
theorem fin_count {N : Nat} {X : Nat → SpC} {c n T : Nat} (hn : 1 ≤ n) (hT : T ≤ (cidx N X c).length * n) (hX : ∀ i, i < N → (X i).cl = (c : Int) → (X i).S = fillS n T (cidx i X c).length ∧ (X i).n = n) :
    ∀ (d i : Nat) (page : Int), i + d = N → T ≤ ((cidx i X c).length + ccl c (finL X i d page)) * n
  | 0, i, page, hi => by
    have : i = N := by omega
    subst this
    exact hT
  | d + 1, i, page, hi => by
    have e1 : (cidx (i + 1) X c).length = (cidx i X c).length + (if (X i).cl = (c : Int) then 1 else 0) := by
      rw [cidx_succ]
      split
      · simp
      · rfl
    rw [finL]
    by_cases hz : cnt (X i).S 0 (X i).n = 0
    · rw [if_pos hz]
      have ih := fin_count hn hT hX d (i + 1) page (by omega)
      by_cases hcl : (X i).cl = (c : Int)
      · obtain ⟨x1, x2⟩ := hX i (by omega) hcl
        have hle : T ≤ (cidx i X c).length * n := by
          by_cases hlt : (cidx i X c).length * n < T
          · exfalso
            rw [x1, x2, ← memL_len] at hz
            have : (0 : Int) ∈ memL (fillS n T (cidx i X c).length) 0 n := (mem_iff n 0 0).2 ⟨by omega, by omega, by unfold fillS; exact decide_eq_true ⟨by omega, by omega⟩⟩
            rw [List.length_eq_zero_iff.1 hz] at this
            cases this
          · omega
        have : (cidx i X c).length * n ≤ ((cidx i X c).length + ccl c (finL X (i + 1) d page)) * n := Nat.mul_le_mul_right _ (by omega)
        omega
      · rw [e1, if_neg hcl, Nat.add_zero] at ih
        exact ih
    · rw [if_neg hz, ccl_cons]
      have ih := fin_count hn hT hX d (i + 1) (page + (X i).pgs) (by omega)
      rw [e1, Nat.add_assoc] at ih
      exact ih
theorem cidx_take {D : List SpD} {c : Int} : ∀ (M : Nat), M ≤ D.length → (cidx M (X0 D) c).length = ccl c (D.take M)
  | 0, _ => rfl
  | M + 1, h => by
    have ih := cidx_take (D := D) (c := c) M (by omega)
    have hd : D[M]? = some D[M] := List.getElem?_eq_getElem (by omega)
    have et : D.take (M + 1) = D.take M ++ [D[M]] := take_snoc hd
    have ea : ccl c (D.take M ++ [D[M]]) = ccl c (D.take M) + (if D[M].cl = c then 1 else 0) := by
      unfold ccl
      rw [List.filter_append, List.length_append]
      by_cases h : D[M].cl = c
      · rw [if_pos h, List.filter_cons_of_pos (by simpa using h)]; rfl
      · rw [if_neg h, List.filter_cons_of_neg (by simpa using h)]; rfl
    rw [et, ea, cidx_succ, X0_at hd]
    show (if D[M].cl = c then cidx M (X0 D) c ++ [M] else cidx M (X0 D) c).length = _
    by_cases h : D[M].cl = c
    · rw [if_pos h, if_pos h, List.length_append, ih]; rfl
    · rw [if_neg h, if_neg h, ih]; rfl
theorem plan_tidy {pages : Int} {D : List SpD} (h : rightP pages D = true) {c : Nat} (hc : c < 7) : Tidy (planL D).length (X0 (planL D)) c (Tn D.length (X0 D) c) := by
  obtain ⟨⟨n1, n2⟩, z1, z2⟩ := cls_range (of := (c : Int)) (by omega) (by omega)
  have hG := X0_good h
  have hX : ∀ i, i < D.length → (stX D.length (X0 D) 7 i).cl = (c : Int) → (stX D.length (X0 D) 7 i).S = fillS (slotsN c) (Tn D.length (X0 D) c) (cidx i (stX D.length (X0 D) 7) c).length ∧ (stX D.length (X0 D) 7 i).n = slotsN c := fun i hi hcl => by
    obtain ⟨p1, p2, p3, p4, p5⟩ := stX_same (N := D.length) (X := X0 D) 7 i
    rw [p1] at hcl
    have hr := cidx_rank D.length hi hcl
    have e : (cidx i (stX D.length (X0 D) 7) c).length = (cidx i (X0 D) c).length := by rw [cidx_congr fun i' _ => (stX_same 7 i').1]
    rw [e, stX_in hr 7 (by omega)]
    refine ⟨rfl, ?_⟩
    show (X0 D i).n = _
    rw [(hG i hi).2.1, hcl]
  have hTle : Tn D.length (X0 D) c ≤ (cidx D.length (stX D.length (X0 D) 7) c).length * slotsN c := by
    rw [cidx_st]
    have := @frmL_len D.length (X0 D) c (slotsN c) 0
    rw [Nat.sub_zero] at this
    exact this
  have hfr := fin_rank n1 hX D.length 0 0 (by omega)
  have hfc := fin_count n1 hTle hX D.length 0 0 (by omega)
  have z0 : (cidx 0 (stX D.length (X0 D) 7) c).length = 0 := rfl
  rw [z0, Nat.zero_add] at hfc
  refine ⟨?_, fun j i hj => ?_⟩
  · rw [cidx_take _ (Nat.le_refl _), List.take_length]; exact hfc
  · obtain ⟨iN, ic, ir⟩ := cidx_at hj
    have hd : (planL D)[i]? = some (planL D)[i] := List.getElem?_eq_getElem iN
    have hcl : (planL D)[i].cl = (c : Int) := by rw [X0_at hd] at ic; exact ic
    obtain ⟨q1, q2⟩ := hfr i _ hd hcl
    have hrank := cidx_rank (planL D).length iN ic
    have ej : (cidx i (X0 (planL D)) c).length = j := by
      rw [← ir]; exact (cidx_at hrank).2.2.symm
    rw [cidx_take i (by omega)] at ej
    have ej : ccl c ((finL (stX D.length (X0 D) 7) 0 D.length 0).take i) = j := ej
    rw [z0, Nat.zero_add, ej] at q1
    rw [X0_at hd]
    show setL (planL D)[i].live = _
    rw [q1, setL_mem (fun s hs => by unfold fillS; exact decide_eq_false (by omega))]
theorem plan_again {pages : Int} {D : List SpD} (h : rightP pages D = true) : planL (planL D) = planL D ∧ planM (planL D) = [] := by
  obtain ⟨r1, r2⟩ := plan_right h
  obtain ⟨t1, t2⟩ := tidy_st (X0_good r1) (fun c hc => ⟨_, plan_tidy h hc⟩) 7 (Nat.le_refl _)
  obtain ⟨c1, c2⟩ := cont_again (D := planL D) (planL D).length 0 0 (by omega) (by rw [List.drop_zero]; exact r2)
  have e1 : planL (planL D) = finL (stX (planL D).length (X0 (planL D)) 7) 0 (planL D).length 0 := rfl
  have e2 : planM (planL D) = stM (planL D).length (X0 (planL D)) 7 ++ finM (stX (planL D).length (X0 (planL D)) 7) 0 (planL D).length 0 := rfl
  rw [e1, e2, t1, t2, c1, c2]
  exact ⟨List.drop_zero, rfl⟩

end Go.Proofs.YtklmaeefnmcmlaaDoor.C
