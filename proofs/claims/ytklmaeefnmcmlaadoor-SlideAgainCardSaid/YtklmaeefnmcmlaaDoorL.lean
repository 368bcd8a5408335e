/-
  Parts of the proofs of this seat: what the functions compute. No condition beyond what each theorem states.
-/
import Derived.Test.YtklmaeefnmcmlaaDoorF
import Derived.Test.YtklmaeefnmcmlaaDoorRK
import Derived.Test.YtklmaeefnmcmlaaDoorA
import Derived.Test.YtklmaeefnmcmlaaDoorB
import Derived.Test.YtklmaeefnmcmlaaDoorC
import Derived.Test.YtklmaeefnmcmlaaDoorD
import Derived.Test.YtklmaeefnmcmlaaDoorE
import Derived.Test.YtklmaeefnmcmlaaDoorG
import Derived.Test.YtklmaeefnmcmlaaDoorH
import Derived.Test.YtklmaeefnmcmlaaDoorI
import Derived.Test.YtklmaeefnmcmlaaDoorJ
import Derived.Test.YtklmaeefnmcmlaaDoorK
set_option linter.unusedVariables false
set_option linter.unusedSimpArgs false
set_option maxRecDepth 100000
namespace Go.Proofs.YtklmaeefnmcmlaaDoor.C
open Go Go.RowKit Go.Proofs.YtklmaeefnmcmlaaDoor Go.Proofs.YtklmaeefnmcmlaaDoor.Sh Go.Proofs.YtklmaeefnmcmlaaDoor.F Go.Proofs.YtklmaeefnmcmlaaDoor.R

/-! ### Plan -/
def Good (N : Nat) (X : Nat → SpC) : Prop := ∀ i, i < N → Within (X i).S (X i).n ∧ (X i).n = slotsN (X i).cl ∧ ((X i).cl ≠ 7 → (X i).sz = clsSize (X i).cl) ∧ 0 ≤ (X i).pg ∧ (X i).pg ≤ 4096 ∧ 0 ≤ (X i).cl ∧ (X i).cl ≤ 7 ∧ 1 ≤ (X i).pgs ∧ (X i).pgs ≤ 16 ∧ 1 ≤ (X i).sz ∧ (X i).sz ≤ 4096
theorem cls_range {of : Int} (h0 : 0 ≤ of) (h7 : of < 7) : (1 ≤ slotsN of ∧ slotsN of ≤ 16) ∧ 1 ≤ clsSize of ∧ clsSize of ≤ 4096 := by
  have : of = 0 ∨ of = 1 ∨ of = 2 ∨ of = 3 ∨ of = 4 ∨ of = 5 ∨ of = 6 := by omega
  rcases this with rfl | rfl | rfl | rfl | rfl | rfl | rfl <;> decide
theorem Good.cls {N : Nat} {X : Nat → SpC} (h : Good N X) {of : Int} (h7 : of < 7) : Cls N X of (slotsN of) (clsSize of) := fun i hi hc => by
  obtain ⟨g1, g2, g3, g4, g5, _⟩ := h i hi
  rw [hc] at g2 g3
  exact ⟨g2, g3 (by omega), by rw [← g2]; exact g1, g4, g5⟩
theorem Good.pack {N : Nat} {X : Nat → SpC} (h : Good N X) {of : Int} {c k t : Nat} : Good N (packX X (cidx N X of) (slotsN of) c k t) := fun i hi => by
  obtain ⟨p1, p2, p3, p4, p5⟩ := @packX_cl X (cidx N X of) (slotsN of) c k t i
  obtain ⟨g1, g2, g⟩ := h i hi
  rw [p1, p2, p3, p4, p5]
  refine ⟨?_, g2, g⟩
  unfold packX
  split
  · rename_i hm
    have hcl := (cidx_mem.1 hm).2
    rw [hcl] at g2
    rw [g2] at g1 ⊢
    exact stS_within g1
  · exact g1
def stX (N : Nat) (X : Nat → SpC) : Nat → Nat → SpC
  | 0 => X
  | c + 1 => packX (stX N X c) (cidx N (stX N X c) c) (slotsN c) (frmL N (stX N X c) c (slotsN c) 0).length (cidx N (stX N X c) c).length 0
def stM (N : Nat) (X : Nat → SpC) : Nat → List MvD
  | 0 => []
  | c + 1 => stM N X c ++ mvsL (dstP (stX N X c) (cidx N (stX N X c) c) (slotsN c) (clsSize c)) (clsSize c) 0 (frmL N (stX N X c) c (slotsN c) 0)
theorem stX_good {N : Nat} {X : Nat → SpC} (h : Good N X) : ∀ c, Good N (stX N X c)
  | 0 => h
  | c + 1 => (stX_good h c).pack
theorem stM_len {N : Nat} {X : Nat → SpC} : ∀ c, c ≤ 7 → (stM N X c).length ≤ c * (N * 16)
  | 0, _ => Nat.zero_le _
  | c + 1, hc => by
    have ih := stM_len (N := N) (X := X) c (by omega)
    have h1 := @mvsL_len (dstP (stX N X c) (cidx N (stX N X c) c) (slotsN c) (clsSize c)) (clsSize c) (frmL N (stX N X c) c (slotsN c) 0) 0
    have h2 := @frmL_len N (stX N X c) c (slotsN c) 0
    have h3 := @cidx_len N (stX N X c) c
    have h4 := (clsSlots_nat c).2
    have h5 : ((cidx N (stX N X c) c).length - 0) * slotsN c ≤ N * 16 := Nat.mul_le_mul (by omega) h4
    rw [stM, List.length_append, Nat.succ_mul]
    omega
/-- What is left behind, and the moves of whole spans. -/
def finL (X : Nat → SpC) : Nat → Nat → Int → List SpD
  | _, 0, _ => []
  | i, d + 1, page => if cnt (X i).S 0 (X i).n = 0 then finL X (i + 1) d page else ⟨page, (X i).cl, dSize (X i).cl (X i).sz, memL (X i).S 0 (X i).n⟩ :: finL X (i + 1) d (page + (X i).pgs)
def finM (X : Nat → SpC) : Nat → Nat → Int → List MvD
  | _, 0, _ => []
  | i, d + 1, page => if cnt (X i).S 0 (X i).n = 0 then finM X (i + 1) d page else (if (X i).pg ≠ page then [⟨(X i).pg * 256, page * 256, (X i).pgs * 256⟩] else []) ++ finM X (i + 1) d (page + (X i).pgs)
def planL (D : List SpD) : List SpD := finL (stX D.length (X0 D) 7) 0 D.length 0
def planM (D : List SpD) : List MvD := stM D.length (X0 D) 7 ++ finM (stX D.length (X0 D) 7) 0 D.length 0
theorem X0_good {pages : Int} {D : List SpD} (h : rightP pages D = true) : Good D.length (X0 D) := fun i hi => by
  obtain ⟨h1, h2, h3, h4⟩ := rightP_ok h
  have hd : D[i]? = some D[i] := List.getElem?_eq_getElem hi
  obtain ⟨e1, e2, e3⟩ := h4 _ (List.getElem_mem hi)
  obtain ⟨n0, n1⟩ := of_parts e1
  obtain ⟨g1, g2, g3, g4, g5, g6, g7, g8, _⟩ := new_ok n0
  rw [X0_at hd]
  refine ⟨setL_within fun y hy => (rise_all _ (-1) n1 y hy).2, rfl, fun h7 => ?_, e2, ?_, g1, g2, g4, g5, g7, g8⟩
  · have h7 : D[i].cl ≠ 7 := h7
    show spSize D[i].cl D[i].size = clsSize D[i].cl
    unfold spSize; rw [if_neg h7]
  · show D[i].pg ≤ 4096
    omega
section
variable {w0 w : World} {b N t : Nat} {ps : Nat → Option Addr} {Fs : Nat → Nat → Prop} {X : Nat → SpC} {R : List (Option Addr × List Value)} {ms : List MvD} {K : Value → World → Prop} {A : Option Addr} {cA : Nat}
theorem plan_classes (hG : Good N X) (hN : N ≤ 4096) (hA : (A, ptrs ps (List.range N)) ∈ R) (hK : ∀ w', Pk w0 w' b N ps Fs (stX N X 7) R t (stM N X 7) → slide_Plan.p6 K A N cA ⟨t, 0, none⟩ slide_Plan_1.N (tellC t) w') :
    ∀ (d c : Nat) (w : World), c + d = 7 → Pk w0 w b N ps Fs (stX N X c) R t (stM N X c) → slide_Plan.l0 K (d + 1) A N cA ⟨t, 0, none⟩ slide_Plan_1.N (tellC t) (c : Int) w := by
  intro d
  induction d with
  | zero =>
    intro c w hc hP
    rw [slide_Plan.l0_succ]
    refine cond_dec (fun h => absurd h (by omega)) (fun _ => ?_)
    obtain rfl : c = 7 := by omega
    exact hK w hP
  | succ d ih =>
    intro c w hc hP
    rw [slide_Plan.l0_succ]
    refine cond_dec (fun _ => ?_) (fun h => absurd (by omega) h)
    obtain ⟨r1, r2, r3⟩ := cls_range (of := (c : Int)) (by omega) (by omega)
    have hml := stM_len (N := N) (X := X) c (by omega)
    have : c * (N * 16) ≤ 7 * (4096 * 16) := Nat.mul_le_mul (by omega) (Nat.mul_le_mul hN (Nat.le_refl _))
    refine slide_pack_c (of := (c : Int)) hP ((stX_good hG c).cls (by omega)) r1 ⟨r2, r3⟩ (by omega) hA (by omega) fun w1 hP1 => ⟨rfl, ?_⟩
    rw [cst c (by omega)]
    exact ih (c + 1) w1 (by omega) hP1
end

end Go.Proofs.YtklmaeefnmcmlaaDoor.C
