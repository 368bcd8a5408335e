/-
  The law NumReads: for every input it answers true, and its arguments read behind the call as they read before.
-/
import Derived.Test.YtemgehocabfbkaaRows
import Derived.Test.YtemgehocabfbkaaD
import Derived.WalkKit
import Derived.ProofKit
import Derived.OpenShut
import Derived.ShutString
import Derived.ChangeOld
import Derived.Below
import Derived.SizedLaws
import Derived.ChangeSlices
namespace Go.Proofs.Ytemgehocabfbkaa.numReads
open Go.ChangeShapes Go.WideShapes Go.ChangeAt Go.RowKit
open Go.ChangeMaps (open_string shut_string)
open Go.Proofs.Ytemgehocabfbkaa.R
set_option linter.unusedVariables false
theorem own : ownKnob Try.prog.godebug = none := by kernel_rfl
theorem laidOut : laidOutB Try.prog = true := by kernel_rfl
set_option maxRecDepth 100000 in
theorem lifted (os : Os) (started : os.Started) (H : Type) (enc : TypeId × Value → H) :
    ReturnsInHanded {} Try.checked os 8 .any (Rows.numReadsSpec.pre6 enc Try.prog Try.f8 Rows.numReadsRow.domain false) (Rows.numReadsSpec.post enc Try.prog Try.f8 false true false false) := by
  refine returnsInHanded_of_change_sized (C := Try.checked) own started (by kernel_rfl) Try.func8
    (ChangeSpec.witness6 (enc := enc) (C := Try.checked) false ⟨#[], #[.slice none 0 0, .slice none 0 0], []⟩ 8 (by kernel_rfl) (by kernel_rfl) (by kernel_rfl) (by kernel_rfl)) ?_
  intro W base args ds gs before hval0 hW hcnd hsz0 _
  have hsz : (DataW.weightsEach Try.prog (Try.f8.params.toList ++ Rows.numReadsSpec.plain.varTypes Try.prog) (ds ++ gs)).all (· ≤ reachBytes) = true := hsz0
  have hval : ∀ (j : Nat) t v, Try.f8.params[j]? = some t → args[j]? = some v → Value.okWide Try.prog W .any base t v := hval0
  have hW' := hW
  obtain ⟨p, q, hA0, hV, rfl, hfz, hnd⟩ := hW
  have hA : DataW.TrodAll enc Try.prog W 0 (fun _ => true) true Try.f8.params.toList args.toList ds p := hA0
  rw [Try.params8] at hA hval hsz
  obtain ⟨v0, vs0, d0, ds0, p0, q0, hargs, rfl, rfl, h0, r0⟩ := trodAll_cons hA
  obtain ⟨v1, vs1, d1, ds1, p1, q1, rfl, rfl, rfl, h1, r1⟩ := trodAll_cons r0
  obtain ⟨rfl, rfl, rfl⟩ := trodAll_nil r1
  obtain rfl : args = #[v0, v1] := by cases args; simp_all
  obtain ⟨rfl, rfl⟩ := trodVars_none hV
  obtain ⟨a0, len0, cap0, rfl⟩ := okWide_slice Try.underlying23 (hval 0 23 v0 rfl rfl)
  have k0 := h0
  have lt0 : ∀ x ∈ p0, x.block < W.heap.size := by obtain ⟨m, hm⟩ := k0; exact DataW.trod_lt m _ _ _ hm
  obtain ⟨z0, w0⟩ := isRow_of Try.underlying23 Try.underlying5 (by kernel_rfl) h0
  have y0 : len0 * 1 ≤ 140737488351232 := sized_ints hsz (j := 0) (t := 23) rfl rfl Try.underlying23 Try.underlying5 (by kernel_rfl) (by kernel_rfl) h0
  obtain ⟨x0, l0, u0⟩ := w0.cs
  obtain ⟨a1, len1, cap1, rfl⟩ := okWide_slice Try.underlying47 (hval 1 47 v1 rfl rfl)
  have k1 := h1
  have lt1 : ∀ x ∈ p1, x.block < W.heap.size := by obtain ⟨m, hm⟩ := k1; exact DataW.trod_lt m _ _ _ hm
  have x1 : (RdSlice 24 3 (RdAgg [(1, RdInt .i64), (1, RdInt .i64), (1, RdInt .u64)])) W [.slice a1 len1 cap1] := opens_val (P := Try.prog) (W := W) (Q := RdSlice 24 3 (RdAgg [(1, RdInt .i64), (1, RdInt .i64), (1, RdInt .u64)])) (opens_slice Try.underlying47 (by kernel_rfl) (by kernel_rfl) (opens_struct Try.underlying53 ⟨rfl, by kernel_rfl, (opens_int Try.underlying3), ⟨rfl, by kernel_rfl, (opens_int Try.underlying3), ⟨rfl, by kernel_rfl, (opens_int Try.underlying22), (show (3 : Nat) = Try.prog.cellsOf 53 from by kernel_rfl)⟩⟩⟩)) h1 hsz (j := 1) (t := 47) rfl rfl
  clear hA0 hval0 hsz0 hsz
  refine (CallsE.run (C.law_NumReads W a0 len0 cap0 _ x0 l0.symm u0 y0 w0.le a1 len1 cap1 x1)).mono fun e W' ⟨he, bel⟩ => ?_
  subst he
  exact ⟨_, rfl, _, _, _, [], _, [], hW', trodAll_mk1 (shut_bool Try.underlying4 _), (trodAll_cons_mk (Below.trod laidOut (by kernel_rfl) (of_decide_eq_true (by kernel_rfl)) k0 bel lt0) (trodAll_cons_mk (Below.trod laidOut (by kernel_rfl) (of_decide_eq_true (by kernel_rfl)) k1 bel lt1) trodAll_mk0)), rfl, bel.frame _, fun h => by cases h⟩
theorem over : Rows.numReadsRow.holds Try.pinned (OpenSpec.ofChange Rows.numReadsSpec) :=
  OpenClaim.holds_of_wide 8 Try.f8 rfl rfl rfl rfl rfl rfl rfl ⟨rfl, rfl, rfl, rfl, rfl⟩ rfl rfl rfl rfl rfl (by kernel_rfl) Try.func8 (by kernel_rfl)
    (of_decide_eq_true (by kernel_rfl)) (by unfold Func.isWrapper; first | (rw [if_pos (by decide +kernel)]; kernel_rfl) | (rw [if_neg (by decide +kernel)]; exact ⟨rfl, rfl⟩))
    (fun os started H enc _ => lifted os started H enc)
theorem proved : Rows.NumReadsSaid := over
#print axioms proved
end Go.Proofs.Ytemgehocabfbkaa.numReads
namespace Go.Proofs.Ytemgehocabfbkaa
/-- The row, under a short name, for the claim. -/
theorem numReads_holds : Rows.NumReadsSaid := numReads.proved
end Go.Proofs.Ytemgehocabfbkaa
