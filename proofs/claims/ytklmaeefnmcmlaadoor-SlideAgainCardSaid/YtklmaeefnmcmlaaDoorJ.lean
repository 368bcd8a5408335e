/-
  Parts of the proofs of this seat: what the functions compute. No condition beyond what each theorem states.
-/
import Derived.Test.YtklmaeefnmcmlaaDoorF
import Derived.Test.YtklmaeefnmcmlaaDoorRK
import Derived.Test.YtklmaeefnmcmlaaDoorA
import Derived.Test.YtklmaeefnmcmlaaDoorB
import Derived.Test.YtklmaeefnmcmlaaDoorC
import Derived.Test.YtklmaeefnmcmlaaDoorD
import Derived.Test.YtklmaeefnmcmlaaDoorE
import Derived.Test.YtklmaeefnmcmlaaDoorG
import Derived.Test.YtklmaeefnmcmlaaDoorH
import Derived.Test.YtklmaeefnmcmlaaDoorI
set_option linter.unusedVariables false
set_option linter.unusedSimpArgs false
set_option maxRecDepth 100000
namespace Go.Proofs.YtklmaeefnmcmlaaDoor.C
open Go Go.RowKit Go.Proofs.YtklmaeefnmcmlaaDoor Go.Proofs.YtklmaeefnmcmlaaDoor.Sh Go.Proofs.YtklmaeefnmcmlaaDoor.F Go.Proofs.YtklmaeefnmcmlaaDoor.R

/-! ### pack -/
theorem packX_0 {X : Nat → SpC} {idx : List Nat} {n : Nat} : packX X idx n 0 0 0 = X := funext fun i => by
  unfold packX
  split
  · rw [stS_0]; rfl
  · rfl
theorem packX_at {N : Nat} {X : Nat → SpC} {of : Int} {n c k t j i : Nat} (h : (cidx N X of)[j]? = some i) : packX X (cidx N X of) n c k t i = setS (X i) (stS n c k t j (X i).S) := by
  obtain ⟨h1, h2, h3⟩ := cidx_at h
  unfold packX
  rw [if_pos (cidx_mem.2 ⟨h1, h2⟩), h3]
theorem idx_ne {N : Nat} {X : Nat → SpC} {of : Int} {j i i' : Nat} (h : (cidx N X of)[j]? = some i) (hm : i' ∈ cidx N X of) (hne : i' ≠ i) : (cidx N X of).idxOf i' ≠ j := fun e => by
  have hlt := List.idxOf_lt_length_of_mem hm
  have hg := List.getElem_idxOf hlt
  obtain ⟨hj, hv⟩ := List.getElem?_eq_some_iff.1 h
  apply hne
  rw [← hg, ← hv]
  congr 1
theorem packX_next {N : Nat} {X : Nat → SpC} {of : Int} {n c k : Nat} (hW : ∀ i, i ∈ cidx N X of → Within (X i).S n) : packX X (cidx N X of) n c k n = packX X (cidx N X of) n c (k + 1) 0 := funext fun i => by
  unfold packX
  split
  · rw [stS_next (hW i (by assumption))]
  · rfl
theorem packX_skip {N : Nat} {X : Nat → SpC} {of : Int} {n c k t i : Nat} (h : (cidx N X of)[k]? = some i) (hs : (X i).S t = false) : packX X (cidx N X of) n c k t = packX X (cidx N X of) n c k (t + 1) := funext fun i' => by
  unfold packX
  split
  · rename_i hm
    rw [stS_skip fun e => ?_]
    by_cases hi : i' = i
    · rw [hi]; exact hs
    · exact absurd e (idx_ne h hm hi)
  · rfl
theorem packX_give {N : Nat} {X : Nat → SpC} {of : Int} {n c k t i : Nat} (h : (cidx N X of)[k]? = some i) (hc : c ≤ k * n + t) : packX X (cidx N X of) n c k (t + 1) = setX (packX X (cidx N X of) n c k t) i (upd (stS n c k t k (X i).S) t false) := funext fun i' => by
  by_cases hi : i' = i
  · subst hi
    rw [setX_same, packX_at h, packX_at h, stS_give hc]; rfl
  · rw [setX_other hi]
    unfold packX
    split
    · rename_i hm
      rw [stS_skip (t := t) fun e => absurd e (idx_ne h hm hi)]
    · rfl
theorem packX_take {N : Nat} {X : Nat → SpC} {of : Int} {n c k t i : Nat} (hn : 0 < n) (h : (cidx N X of)[c / n]? = some i) : packX X (cidx N X of) n (c + 1) k t = setX (packX X (cidx N X of) n c k t) i (upd (stS n c k t (c / n) (X i).S) (c % n) true) := funext fun i' => by
  by_cases hi : i' = i
  · subst hi
    rw [setX_same, packX_at h, packX_at h, stS_take hn]; rfl
  · rw [setX_other hi]
    unfold packX
    split
    · rename_i hm
      rw [stS_other (idx_ne h hm hi)]
    · rfl
theorem packX_cl {X : Nat → SpC} {idx : List Nat} {n c k t i : Nat} : (packX X idx n c k t i).cl = (X i).cl ∧ (packX X idx n c k t i).pg = (X i).pg ∧ (packX X idx n c k t i).pgs = (X i).pgs ∧ (packX X idx n c k t i).sz = (X i).sz ∧ (packX X idx n c k t i).n = (X i).n := by
  unfold packX
  split <;> exact ⟨rfl, rfl, rfl, rfl, rfl⟩
theorem frm_no {x : SpC} {t d : Nat} (h : x.S t = false) : frm x t (d + 1) = frm x (t + 1) d := by
  unfold frm
  rw [memL, if_neg (by rw [h]; decide)]
theorem frm_yes {x : SpC} {t d : Nat} (h : x.S t = true) : frm x t (d + 1) = (x.pg * 256 + (t : Int) * x.sz) :: frm x (t + 1) d := by
  unfold frm
  rw [memL, if_pos h, List.map_cons]
theorem frm_len {x : SpC} {t d : Nat} : (frm x t d).length ≤ d := by
  unfold frm
  rw [List.length_map]; exact memL_le
theorem at_in {pg sz : Int} {n i : Nat} (h : i < n) : atV pg sz n (i : Int) = (pg * 256 + (i : Int) * sz, true) := by unfold atV; rw [if_neg (by omega)]
/-- What is known of a class. -/
def Cls (N : Nat) (X : Nat → SpC) (of : Int) (n : Nat) (sz : Int) : Prop := ∀ i, i < N → (X i).cl = of → (X i).n = n ∧ (X i).sz = sz ∧ Within (X i).S n ∧ 0 ≤ (X i).pg ∧ (X i).pg ≤ 4096
section
variable {w0 w : World} {b N t : Nat} {ps : Nat → Option Addr} {Fs : Nat → Nat → Prop} {X : Nat → SpC} {R : List (Option Addr × List Value)} {ms : List MvD} {K : Value → World → Prop} {of sz : Int} {n : Nat} {O : Option Addr} {cO : Nat}
abbrev tellC (t : Nat) : Array Value := #[.pointer (some ⟨t, 0, none⟩)]
theorem pack_in {L1 : FuncId → Array Value → Option Addr → Nat → Nat → Int → Int → Option Addr → Nat → Nat → Int → Int → World → Prop} (hU : Cls N X of n sz) (hn : 1 ≤ n ∧ n ≤ 16) (hsz : 1 ≤ sz ∧ sz ≤ 4096) (hN : N ≤ 1000000) (hO : (O, ptrs ps (cidx N X of)) ∈ R) {k i : Nat} (hi : (cidx N X of)[k]? = some i) :
    ∀ (d s c : Nat) (ms : List MvD) (w : World), s + d = n → c ≤ k * n + s → ms.length + d ≤ 1000000000 → Pk w0 w b N ps Fs (packX X (cidx N X of) n c k s) R t ms →
      (∀ w', Pk w0 w' b N ps Fs (packX X (cidx N X of) n (c + (frm (X i) s d).length) k n) R t (ms ++ mvsL (dstP X (cidx N X of) n sz) sz c (frm (X i) s d)) → L1 slide_Plan_1.N (tellC t) O (cidx N X of).length cO (((c + (frm (X i) s d).length) / n : Nat) : Int) (((c + (frm (X i) s d).length) % n : Nat) : Int) O (cidx N X of).length cO ((cidx N X of).length : Int) ((k + 1 : Nat) : Int) w') →
      slide_pack.l2 L1 K (d + 1) slide_Plan_1.N (tellC t) O (cidx N X of).length cO ((c / n : Nat) : Int) ((c % n : Nat) : Int) (ps i) O (cidx N X of).length cO ((cidx N X of).length : Int) (k : Int) (n : Int) (s : Int) w := by
  obtain ⟨hiN, hic, hir⟩ := cidx_at hi
  obtain ⟨u1, u2, u3, u4, u5⟩ := hU i hiN hic
  have hkl := (List.getElem?_eq_some_iff.1 hi).1
  have hll := @cidx_len N X of
  intro d
  induction d with
  | zero =>
    intro s c ms w hs hc hm hP hL
    rw [slide_pack.l2_succ]
    refine cond_dec (fun h => absurd h (by omega)) (fun _ => ?_)
    have e : s = n := by omega
    subst e
    have e0 : frm (X i) s 0 = [] := rfl
    rw [e0] at hL
    simp only [mvsL, List.append_nil, List.length_nil, Nat.add_zero] at hL
    show L1 _ _ _ _ _ _ _ _ _ _ _ (IntKind.wrap .i64 ((k : Int) + 1)) w
    rw [cst k (by omega)]
    exact hL w hP
  | succ d ih =>
    intro s c ms w hs hc hm hP hL
    have hsn : s < n := by omega
    rw [slide_pack.l2_succ]
    refine cond_dec (fun _ => ?_) (fun h => absurd (by omega) h)
    have hv := hP.sp.1 i hiN
    rw [packX_at hi] at hv
    have hv : SpanV w b (ps i) (X i).pg (X i).pgs (X i).cl (X i).sz (X i).n (stS n c k s k (X i).S) (Fs i) := hv
    rw [u1, u2] at hv
    have hW := stS_within (c := c) (k := k) (t := s) (j := k) u3
    refine span_Span_Has_c hv hW fun w1 b1 => ⟨_, rfl, ?_⟩
    have hP1 := hP.below b1
    have hv1 := hv.below b1
    have eh : hasV (stS n c k s k (X i).S) (s : Int) = (X i).S s := by unfold hasV; rw [Int.toNat_natCast, stS_at hc, decide_eq_true (by omega)]; rfl
    rw [eh]
    cases hS : (X i).S s with
    | false =>
      refine condP_t ?_
      rw [frm_no hS] at hL
      rw [packX_skip hi hS] at hP1
      show slide_pack.l2 L1 K (d + 1) _ _ _ _ _ _ _ _ _ _ _ _ _ _ (IntKind.wrap .i64 ((s : Int) + 1)) w1
      rw [cst s (by omega)]
      exact ih (s + 1) c ms w1 (by omega) (by omega) (by omega) hP1 hL
    | true =>
      refine condP_f ?_
      rw [frm_yes hS, u2] at hL
      refine span_Span_At_c hv1 ⟨u4, u5⟩ hsz fun w2 b2 => ⟨_, _, rfl, ?_⟩
      rw [at_in hsn]
      have hP2 := hP1.below b2
      have hv2 := hv1.below b2
      have hcp : canPut (stS n c k s k (X i).S) n (s : Int) false = true := by unfold canPut; rw [Int.toNat_natCast, stS_at hc, hS, decide_eq_true (by omega), decide_eq_true (by omega)]; rfl
      refine span_Span_Give_c hv2 hW ⟨by omega, by omega⟩ fun w3 hv3 k3 => ⟨_, rfl, ?_⟩
      have ep : putS (stS n c k s k (X i).S) n (s : Int) false = upd (stS n c k s k (X i).S) s false := by unfold putS; rw [if_pos hcp, Int.toNat_natCast]
      rw [ep] at hv3
      have hP3 := (hP2.upd (S := upd (stS n c k s k (X i).S) s false) hiN (by rw [packX_at hi]; show SpanV w3 b (ps i) (X i).pg (X i).pgs (X i).cl (X i).sz (X i).n _ _; rw [u1, u2]; exact hv3) k3).cong (packX_give hi hc)
      -- the slot that is filled
      have hdk := div_le (n := n) hc hsn
      have hcm := Nat.mod_lt c (show 0 < n by omega)
      have hi2 : (cidx N X of)[c / n]? = some ((cidx N X of)[c / n]'(by omega)) := List.getElem?_eq_getElem (by omega)
      generalize (cidx N X of)[c / n]'(by omega) = i2 at hi2
      obtain ⟨hi2N, hi2c, _⟩ := cidx_at hi2
      obtain ⟨y1, y2, y3, y4, y5⟩ := hU i2 hi2N hi2c
      have ed : dstP X (cidx N X of) n sz c = (X i2).pg * 256 + ((c % n : Nat) : Int) * sz := by
        unfold dstP
        rw [List.getD_eq_getElem?_getD, hi2]; rfl
      have hv4 := hP3.sp.1 i2 hi2N
      rw [packX_at hi2] at hv4
      have hv4 : SpanV w3 b (ps i2) (X i2).pg (X i2).pgs (X i2).cl (X i2).sz (X i2).n (stS n c k (s + 1) (c / n) (X i2).S) (Fs i2) := hv4
      rw [y1, y2] at hv4
      have hW4 := stS_within (c := c) (k := k) (t := s + 1) (j := c / n) y3
      have hcell : ∀ w', Pk w0 w' b N ps Fs (packX X (cidx N X of) n c k (s + 1)) R t ms → ∃ a, O = some a ∧ w'.cell? (a.add (c / n)) = some (.pointer (ps i2)) := fun w' h => (h.rows _ hO).at (ptrs_at hi2)
      obtain ⟨a, ea, hc3⟩ := hcell w3 hP3
      refine ⟨⟨by omega, by omega⟩, a, ea, ps i2, by rw [Int.toNat_natCast]; exact hc3, ?_⟩
      refine span_Span_At_c hv4 ⟨y4, y5⟩ hsz fun w5 b5 => ⟨_, _, rfl, ?_⟩
      rw [at_in hcm]
      have hP5 := hP3.below b5
      obtain ⟨a5, ea5, hc5⟩ := hcell w5 hP5
      refine ⟨⟨by omega, by omega⟩, a5, ea5, ps i2, by rw [Int.toNat_natCast]; exact hc5, ?_⟩
      obtain ⟨t1, t2⟩ := take_at (S := stS n c k (s + 1) (c / n) (X i2).S) (n := n) (m := c % n) (fun s' h' => stS_low (by omega) h') (stS_free hsn hc) hcm
      refine span_Span_Take_c (hv4.below b5) hW4 hP5.tab fun w6 hv6 k6 => ⟨_, _, rfl, ?_⟩
      rw [t1] at hv6
      have hP6 := (hP5.upd (S := upd (stS n c k (s + 1) (c / n) (X i2).S) (c % n) true) hi2N (by rw [packX_at hi2]; show SpanV w6 b (ps i2) (X i2).pg (X i2).pgs (X i2).cl (X i2).sz (X i2).n _ _; rw [y1, y2]; exact hv6) k6).cong (packX_take (by omega) hi2)
      -- behind the telling
      have fin : ∀ (w7 : World) (ms' : List MvD), ms' = ms ++ (if (X i).pg * 256 + (s : Int) * sz ≠ dstP X (cidx N X of) n sz c then [⟨(X i).pg * 256 + (s : Int) * sz, dstP X (cidx N X of) n sz c, sz⟩] else []) → Pk w0 w7 b N ps Fs (packX X (cidx N X of) n (c + 1) k (s + 1)) R t ms' →
          slide_pack.p22 (slide_pack.l2 L1 K (d + 1)) L1 K slide_Plan_1.N (tellC t) O (cidx N X of).length cO ((c / n : Nat) : Int) ((c % n : Nat) : Int) (ps i) O (cidx N X of).length cO ((cidx N X of).length : Int) (k : Int) (n : Int) (s : Int) w7 := fun w7 ms' hms hP7 => by
        have hv7 := hP7.sp.1 i hiN
        rw [packX_at hi] at hv7
        have hv7 : SpanV w7 b (ps i) (X i).pg (X i).pgs (X i).cl (X i).sz (X i).n _ (Fs i) := hv7
        rw [u1] at hv7
        refine span_Span_Slots_c hv7 fun w8 b8 => ⟨_, rfl, ?_⟩
        have hP8 := hP7.below b8
        have hlen : ms'.length + d ≤ 1000000000 := by
          rw [hms, List.length_append]
          split
          · simp only [List.length_cons, List.length_nil]; omega
          · simp only [List.length_nil]; omega
        have go : slide_pack.l2 L1 K (d + 1) slide_Plan_1.N (tellC t) O (cidx N X of).length cO (((c + 1) / n : Nat) : Int) (((c + 1) % n : Nat) : Int) (ps i) O (cidx N X of).length cO ((cidx N X of).length : Int) (k : Int) (n : Int) ((s + 1 : Nat) : Int) w8 := by
          refine ih (s + 1) (c + 1) ms' w8 (by omega) (by omega) hlen hP8 fun w9 hP9 => ?_
          have el : c + (((X i).pg * 256 + (s : Int) * sz) :: frm (X i) (s + 1) d).length = c + 1 + (frm (X i) (s + 1) d).length := by rw [List.length_cons]; omega
          rw [el, mvsL, ← List.append_assoc, ← hms] at hL
          exact hL w9 hP9
        obtain ⟨nd1, nd2⟩ := next_div (n := n) (c := c) (by omega)
        have hdl : c / n < 1000000 := by omega
        rw [cst (c % n) (by omega)]
        show condP ((((c % n + 1 : Nat)) : Int) == (n : Int)) _ _
        refine cond_eq (fun he => ?_) (fun he => ?_)
        · obtain ⟨q1, q2⟩ := nd1 (by omega)
          rw [q1, q2] at go
          show slide_pack.l2 L1 K (d + 1) _ _ _ _ _ (IntKind.wrap .i64 (((c / n : Nat) : Int) + 1)) 0 _ _ _ _ _ _ _ (IntKind.wrap .i64 ((s : Int) + 1)) w8
          rw [cst (c / n) (by omega), cst s (by omega)]
          exact go
        · obtain ⟨q1, q2⟩ := nd2 (by omega)
          rw [q1, q2] at go
          show slide_pack.l2 L1 K (d + 1) _ _ _ _ _ ((c / n : Nat) : Int) (((c % n + 1 : Nat)) : Int) _ _ _ _ _ _ _ (IntKind.wrap .i64 ((s : Int) + 1)) w8
          rw [cst s (by omega)]
          exact go
      refine cond_ne (fun hne => ?_) (fun he => ?_)
      · have hv7 := hP6.sp.1 i hiN
        rw [packX_at hi] at hv7
        have hv7 : SpanV w6 b (ps i) (X i).pg (X i).pgs (X i).cl (X i).sz (X i).n _ (Fs i) := hv7
        rw [u2] at hv7
        refine span_Span_Size_c hv7 ⟨_, rfl, callG_intro (by kernel_rfl) ?_⟩
        show CallsE Pg slide_Plan_1.N #[.int .i64 ((X i).pg * 256 + (s : Int) * sz), .int .i64 ((X i2).pg * 256 + ((c % n : Nat) : Int) * sz), .int .i64 sz, .pointer (some ⟨t, 0, none⟩)] w6 _
        refine slide_Plan_1_c hP6 (by omega) fun w7 _ hP7 _ _ => ⟨rfl, fin w7 _ ?_ hP7⟩
        rw [ed, if_pos hne]
      · refine fin w6 ms ?_ hP6
        rw [ed, if_neg (fun h => h he), List.append_nil]
end
section
variable {w0 w : World} {b N t : Nat} {ps : Nat → Option Addr} {Fs : Nat → Nat → Prop} {X : Nat → SpC} {R : List (Option Addr × List Value)} {ms : List MvD} {K : Value → World → Prop} {of sz : Int} {n : Nat} {O : Option Addr} {cO : Nat}
/-- All places of a class, from its k-th span on. -/
def frmL (N : Nat) (X : Nat → SpC) (of : Int) (n k : Nat) : List Int := ((cidx N X of).drop k).flatMap fun i => frm (X i) 0 n
theorem frmL_cons {k i : Nat} (h : (cidx N X of)[k]? = some i) : frmL N X of n k = frm (X i) 0 n ++ frmL N X of n (k + 1) := by
  obtain ⟨hk, e⟩ := List.getElem?_eq_some_iff.1 h
  unfold frmL
  rw [List.drop_eq_getElem_cons hk, List.flatMap_cons, e]
theorem frmL_len (k : Nat) : (frmL N X of n k).length ≤ ((cidx N X of).length - k) * n := by
  unfold frmL
  rw [← List.length_drop]
  induction (cidx N X of).drop k with
  | nil => simp
  | cons i l ih =>
    rw [List.flatMap_cons, List.length_append, List.length_cons, Nat.succ_mul]
    have := @frm_len (X i) 0 n
    omega
theorem pack_out (hU : Cls N X of n sz) (hn : 1 ≤ n ∧ n ≤ 16) (hsz : 1 ≤ sz ∧ sz ≤ 4096) (hN : N ≤ 1000000) (hO : (O, ptrs ps (cidx N X of)) ∈ R) :
    ∀ (d k c : Nat) (ms : List MvD) (w : World), k + d = (cidx N X of).length → c ≤ k * n → ms.length + d * n ≤ 1000000000 → Pk w0 w b N ps Fs (packX X (cidx N X of) n c k 0) R t ms →
      (∀ w', Pk w0 w' b N ps Fs (packX X (cidx N X of) n (c + (frmL N X of n k).length) (cidx N X of).length 0) R t (ms ++ mvsL (dstP X (cidx N X of) n sz) sz c (frmL N X of n k)) → K (.tuple #[]) w') →
      slide_pack.l1 K (d + 1) slide_Plan_1.N (tellC t) O (cidx N X of).length cO ((c / n : Nat) : Int) ((c % n : Nat) : Int) O (cidx N X of).length cO ((cidx N X of).length : Int) (k : Int) w := by
  have hll := @cidx_len N X of
  intro d
  induction d with
  | zero =>
    intro k c ms w hk hc hm hP hK
    rw [slide_pack.l1_succ]
    refine cond_dec (fun h => absurd h (by omega)) (fun _ => ?_)
    have e : frmL N X of n k = [] := by unfold frmL; rw [List.drop_of_length_le (by omega)]; rfl
    rw [e] at hK
    simp only [mvsL, List.append_nil, List.length_nil, Nat.add_zero] at hK
    have e : k = (cidx N X of).length := by omega
    rw [← e] at hK
    exact hK w hP
  | succ d ih =>
    intro k c ms w hk hc hm hP hK
    rw [slide_pack.l1_succ]
    refine cond_dec (fun _ => ?_) (fun h => absurd (by omega) h)
    have hi : (cidx N X of)[k]? = some ((cidx N X of)[k]'(by omega)) := List.getElem?_eq_getElem (by omega)
    generalize (cidx N X of)[k]'(by omega) = i at hi
    obtain ⟨hiN, hic, hir⟩ := cidx_at hi
    obtain ⟨u1, u2, u3, u4, u5⟩ := hU i hiN hic
    obtain ⟨a, ea, hc3⟩ := (hP.rows _ hO).at (ptrs_at hi)
    refine ⟨⟨by omega, by omega⟩, a, ea, ps i, by rw [Int.toNat_natCast]; exact hc3, ?_⟩
    have hv := hP.sp.1 i hiN
    rw [packX_at hi] at hv
    have hv : SpanV w b (ps i) (X i).pg (X i).pgs (X i).cl (X i).sz (X i).n _ (Fs i) := hv
    rw [u1] at hv
    refine span_Span_Slots_c hv fun w1 b1 => ⟨_, rfl, n + 1, ?_⟩
    rw [frmL_cons hi, mvsL_app, ← List.append_assoc, List.length_append, ← Nat.add_assoc] at hK
    have hf := @frm_len (X i) 0 n
    have hmv := @mvsL_len (dstP X (cidx N X of) n sz) sz (frm (X i) 0 n) c
    refine pack_in hU hn hsz hN hO hi n 0 c ms w1 (by omega) (by omega) (by rw [Nat.succ_mul] at hm; omega) (hP.below b1) fun w2 hP2 => ?_
    rw [packX_next (fun i' hm' => by obtain ⟨m1, m2⟩ := cidx_mem.1 hm'; exact (hU i' m1 m2).2.2.1)] at hP2
    refine ih (k + 1) _ _ w2 (by omega) (by rw [Nat.succ_mul]; omega) (by rw [List.length_append]; rw [Nat.succ_mul] at hm; omega) hP2 hK
theorem pack_own {A : Option Addr} {cA : Nat} (hN : N ≤ 1000000) (hA : (A, ptrs ps (List.range N)) ∈ R) {wi : World} (hP0 : Pk w0 wi b N ps Fs X R t ms)
    (hK : ∀ O cO w', w'.ownsRow wi.heap.size Ty.p_span_Span 1 (.slice O (cidx N X of).length cO) (cidx N X of).length (ptrs ps (cidx N X of)) → Below wi.heap.size wi w' → slide_pack.p5 K slide_Plan_1.N (tellC t) O (cidx N X of).length cO w') :
    ∀ (d i : Nat) (w : World) (O : Option Addr) (cO : Nat), i + d = N → w.ownsRow wi.heap.size Ty.p_span_Span 1 (.slice O (cidx i X of).length cO) (cidx i X of).length (ptrs ps (cidx i X of)) → Below wi.heap.size wi w →
      slide_pack.l0 K (d + 1) of slide_Plan_1.N (tellC t) O (cidx i X of).length cO A N cA (N : Int) (i : Int) w := by
  intro d
  induction d with
  | zero =>
    intro i w O cO hi o bw
    rw [slide_pack.l0_succ]
    refine cond_dec (fun h => absurd h (by omega)) (fun _ => ?_)
    obtain rfl : i = N := by omega
    exact hK O cO w o bw
  | succ d ih =>
    intro i w O cO hi o bw
    rw [slide_pack.l0_succ]
    refine cond_dec (fun _ => ?_) (fun h => absurd (by omega) h)
    have hP := hP0.below bw
    have hll := @cidx_len i X of
    obtain ⟨a, ea, hc⟩ := (hP.rows _ hA).at (ptrs_at (ps := ps) (l := List.range N) (k := i) (i := i) (List.getElem?_range (by omega)))
    refine ⟨⟨by omega, by omega⟩, a, ea, ps i, by rw [Int.toNat_natCast]; exact hc, ?_⟩
    refine span_Span_Class_c (hP.sp.1 i (by omega)) ⟨_, rfl, ?_⟩
    refine cond_eq (fun hcl => ?_) (fun hcl => ?_)
    · refine app_ptr (q := ps i) o (by omega) bw.size fun A' c' w' o' b' => ⟨_, _, _, rfl, ?_⟩
      have e : cidx (i + 1) X of = cidx i X of ++ [i] := by rw [cidx_succ, if_pos hcl]
      have el : (cidx i X of).length + 1 = (cidx (i + 1) X of).length := by rw [e]; simp
      have ep : ptrs ps (cidx i X of) ++ [.pointer (ps i)] = ptrs ps (cidx (i + 1) X of) := by rw [e]; simp [ptrs]
      rw [ep, el] at o'
      rw [el]
      show slide_pack.l0 K (d + 1) of _ _ _ _ _ _ _ _ _ (IntKind.wrap .i64 ((i : Int) + 1)) w'
      rw [cst i (by omega)]
      exact ih (i + 1) w' A' c' (by omega) o' (bw.trans b')
    · have e : cidx (i + 1) X of = cidx i X of := by rw [cidx_succ, if_neg hcl]
      show slide_pack.l0 K (d + 1) of _ _ _ _ _ _ _ _ _ (IntKind.wrap .i64 ((i : Int) + 1)) w
      rw [cst i (by omega)]
      have := ih (i + 1) w O cO (by omega)
      rw [e] at this
      exact this o bw
theorem slide_pack_c {A : Option Addr} {cA : Nat} (hP : Pk w0 w b N ps Fs X R t ms) (hU : Cls N X of n sz) (hn : 1 ≤ n ∧ n ≤ 16) (hsz : 1 ≤ sz ∧ sz ≤ 4096) (hN : N ≤ 1000000) (hA : (A, ptrs ps (List.range N)) ∈ R) (hm : ms.length ≤ 100000000)
    (hK : ∀ w', Pk w0 w' b N ps Fs (packX X (cidx N X of) n (frmL N X of n 0).length (cidx N X of).length 0) R t (ms ++ mvsL (dstP X (cidx N X of) n sz) sz 0 (frmL N X of n 0)) → K (.tuple #[]) w') :
    CallsE Pg slide_pack.N #[.slice A N cA, .int .i64 of, .func (.func slide_Plan_1.N) #[] (tellC t)] w K := by
  have hll := @cidx_len N X of
  refine slide_pack.ok ⟨N + 1, ?_⟩
  refine pack_own hN hA hP (fun O cO w1 o1 b1 => ?_) N 0 w none 0 (by omega) (World.ownsRow_nil _ _ _ _) (Below.refl _ _)
  have hP1 := hP.below b1
  have s1 := b1.size
  have hbs := hP.bs
  have hlt : ∀ a, O = some a → w.heap.size ≤ a.block ∧ a.block < w1.heap.size := fun a ha => own_lt o1 (g := a.block) (by rw [ha]; rfl)
  have hP2 := hP1.add (Cs.ofOwn o1) (fun a ha => ⟨(hlt a ha).2, fun i hi hF => by have := ((hP.sp.1 i hi).lt hF).2; have := (hlt a ha).1; omega⟩) (fun Fm hFm a ha hF => by
    obtain ⟨Fm0, h1, _, _⟩ := hP.mv
    have e : Fm = Fm0 := by
      have h1' := h1.kp (Kp.of_below b1) (fun _ _ => id)
      obtain ⟨A1, c1, x1, _, _, _, rfl⟩ := hFm
      obtain ⟨A2, c2, y1, _, _, _, rfl⟩ := h1'
      have := Option.some.inj ((x1.cell' (j := 0) rfl).symm.trans (y1.cell' (j := 0) rfl))
      cases this
      rfl
    rw [e] at hF
    have := (h1.lt hF).2; have := (hlt a ha).1; omega)
  refine ⟨(cidx N X of).length + 1, ?_⟩
  have z1 : ((0 / n : Nat) : Int) = 0 := by rw [Nat.zero_div]; rfl
  have z2 : ((0 % n : Nat) : Int) = 0 := by rw [Nat.zero_mod]; rfl
  have := pack_out (w0 := w0) (b := b) (t := t) (Fs := Fs) (K := K) (O := O) (cO := cO) hU hn hsz hN (R := (O, ptrs ps (cidx N X of)) :: R) (by simp) (cidx N X of).length 0 0 ms w1 (by omega) (by omega) (by
    have : (cidx N X of).length * n ≤ 1000000 * 16 := Nat.mul_le_mul (by omega) hn.2
    omega) (hP2.cong packX_0) (fun w2 h2 => by
      rw [Nat.zero_add] at h2
      exact hK w2 (h2.tail rfl))
  rw [z1, z2] at this
  exact this
end

end Go.Proofs.YtklmaeefnmcmlaaDoor.C
