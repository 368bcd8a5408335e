/-
  The law SlideAgain: for every input it answers true, and its arguments read behind the call as they read before.
-/
import Derived.Test.YtklmaeefnmcmlaaDoorRows
import Derived.Test.YtklmaeefnmcmlaaDoorU
import Derived.WalkKit
import Derived.ProofKit
import Derived.OpenShut
import Derived.ShutString
import Derived.ChangeOld
import Derived.Below
import Derived.SizedLaws
import Derived.ChangeSlices
import Derived.LaidMore
import Derived.Lay
import Derived.SevenTiedAt
import Derived.Stop.Joined
import Derived.Lib.TrailingZeros
import Derived.Test.YtklmaeefnmcmlaaDoorTie
import Derived.Test.YtklmaeefnmcmlaaDoorCards
namespace Go.Proofs.YtklmaeefnmcmlaaDoor.slideAgain
open Go.ChangeShapes Go.WideShapes Go.ChangeAt Go.RowKit
open Go.ChangeMaps (open_string shut_string)
open Go.Proofs.YtklmaeefnmcmlaaDoor.R
set_option linter.unusedVariables false
theorem own : ownKnob Tryd.prog.godebug = none := by kernel_rfl
theorem laidOut : laidOutB Tryd.prog = true := by kernel_rfl
theorem tab_cells {W : World} (h : laidMetH Tryd.prog Rows.slideAgainRow.laid W) : C.Tab W := by
  rw [MakeChecks.laidMetH_plain _ _ _ (by kernel_rfl)] at h
  obtain ⟨ps, ⟨g, t, cs, fuel, p, q, hg, ht, hv, hd, _, _⟩, _, _⟩ := h
  obtain rfl := Option.some.inj ((show Tryd.prog.globalNamed "math/bits.deBruijn64tab" = some 0 by kernel_rfl).symm.trans hg)
  obtain rfl := Option.some.inj ((show (Tryd.prog.globals[0]?).map (·.type) = some 98 by kernel_rfl).symm.trans ht)
  obtain ⟨xs, m, _, ex, _, hl, hel⟩ := DataW.trod_array Tryd.underlying98 hd
  have c5 : Tryd.prog.cellsOf 5 = 1 := by kernel_rfl
  have e3 : (xs.map (·.1)) = Lib.deBruijn64tab.map fun (n : Nat) => (DataW.lit (.int .u8 (n : Int)) : DataW Unit) := by
    have h1 := (DataW.agg.inj (Prod.mk.inj ex).1).symm
    refine h1.trans ?_
    kernel_rfl
  have hlen : Lib.deBruijn64tab.length = 64 := by kernel_rfl
  have hxl : xs.length = 64 := by have := congrArg List.length e3; rw [List.length_map, List.length_map, hlen] at this; exact this
  intro r hr
  have hE := hel r hr
  rw [c5, Nat.mul_one, List.getElem?_eq_getElem (by omega)] at hE
  obtain ⟨z, e1, e2, _⟩ := DataW.trod_int Tryd.underlying5 hE
  have e4 : (xs.map (·.1))[r]? = (Lib.deBruijn64tab.map fun (n : Nat) => (DataW.lit (.int .u8 (n : Int)) : DataW Unit))[r]? := by rw [e3]
  rw [List.getElem?_map, List.getElem?_map, List.getElem?_eq_getElem (by omega : r < xs.length), List.getElem?_eq_getElem (by omega : r < Lib.deBruijn64tab.length), e2] at e4
  have hz : z = ((Lib.deBruijn64tab.getD r 0 : Nat) : Int) := by
    simp only [Option.map_some, Option.some.injEq, DataW.lit.injEq, Lit.int.injEq, true_and] at e4
    rw [e4, List.getD, List.getElem?_eq_getElem (by omega : r < Lib.deBruijn64tab.length)]; rfl
  show W.cell? ⟨0, r, none⟩ = _
  rw [World.var?_cell hg hv r, ← hz]
  have : cs.toList[r]? = some (.int .u8 z) := by
    have h0 : ((cs.toList.drop r).take 1)[0]? = some (.int .u8 z) := by rw [e1]; rfl
    simpa using h0
  simpa using this
set_option maxRecDepth 100000 in
theorem lifted (os : Os) (started : os.Started) (H : Type) (enc : TypeId × Value → H) :
    ReturnsInHanded {} Tryd.checked os 6 .any (fun w args => (Rows.slideAgainSpec.pre enc Tryd.prog Tryd.f6 Rows.slideAgainRow.domain false w args ∧ laidMetH Tryd.prog Rows.slideAgainRow.laid w) ∧ sizedMet enc Tryd.prog Tryd.f6 (OpenSpec.ofChange Rows.slideAgainSpec) false w args)
      (Rows.slideAgainSpec.post enc Tryd.prog Tryd.f6 false true false false) := by
  refine returnsInHanded_of_change_and (C := Tryd.checked) (X := (fun w _ => laidMetH Tryd.prog Rows.slideAgainRow.laid w)) (fun _ _ _ hh h => h.of_heap hh) own started (by kernel_rfl) Tryd.func6
    (ChangeSpec.witness_shaped (enc := enc) (C := Tryd.checked) (os := os) (X := (fun w _ => laidMetH Tryd.prog Rows.slideAgainRow.laid w)) false (World.laidAll Tryd.prog os Rows.slideAgainRow.laid) #[.int .i64 0, .slice none 0 0] 8 (World.laidAll_os _ _ _)
      (World.shaped_of_ZipB (by kernel_rfl) (by kernel_rfl)) (by kernel_rfl) (by kernel_rfl) (by kernel_rfl)
      (by rw [MakeChecks.laidMetH_plain _ _ _ (by kernel_rfl)]; exact laidMet_laidAll _ (by kernel_rfl) (by kernel_rfl))) ?_
  intro W base args ds gs before hval0 hW hcnd hsz0 hL _
  have hT := tab_cells hL
  have hsz : (DataW.weightsEach Tryd.prog (Tryd.f6.params.toList ++ Rows.slideAgainSpec.plain.varTypes Tryd.prog) (ds ++ gs)).all (· ≤ reachBytes) = true := hsz0
  have hval : ∀ (j : Nat) t v, Tryd.f6.params[j]? = some t → args[j]? = some v → Value.okWide Tryd.prog W .any base t v := hval0
  have hW' := hW
  obtain ⟨p, q, hA0, hV, rfl, hfz, hnd⟩ := hW
  have hA : DataW.TrodAll enc Tryd.prog W 0 (fun _ => true) true Tryd.f6.params.toList args.toList ds p := hA0
  rw [Tryd.params6] at hA hval hsz
  obtain ⟨v0, vs0, d0, ds0, p0, q0, hargs, rfl, rfl, h0, r0⟩ := trodAll_cons hA
  obtain ⟨v1, vs1, d1, ds1, p1, q1, rfl, rfl, rfl, h1, r1⟩ := trodAll_cons r0
  obtain ⟨rfl, rfl, rfl⟩ := trodAll_nil r1
  obtain rfl : args = #[v0, v1] := by cases args; simp_all
  obtain ⟨rfl, rfl⟩ := trodVars_none hV
  obtain ⟨a0, rfl, rfl, rfl, w0⟩ := open_int Tryd.underlying3 (hval 0 3 v0 rfl rfl) h0
  obtain ⟨a1, len1, cap1, rfl⟩ := okWide_slice Tryd.underlying28 (hval 1 28 v1 rfl rfl)
  have k1 := h1
  have lt1 : ∀ x ∈ p1, x.block < W.heap.size := by obtain ⟨m, hm⟩ := k1; exact DataW.trod_lt m _ _ _ hm
  have x1 : (RdSlice 48 4 (RdAgg [(1, RdInt .i64), (1, RdInt .i64), (1, RdInt .i64), (1, RdSlice 8 1 (RdInt .i64))])) W [.slice a1 len1 cap1] := opens_val (P := Tryd.prog) (W := W) (Q := RdSlice 48 4 (RdAgg [(1, RdInt .i64), (1, RdInt .i64), (1, RdInt .i64), (1, RdSlice 8 1 (RdInt .i64))])) (opens_slice Tryd.underlying28 (by kernel_rfl) (by kernel_rfl) (opens_struct Tryd.underlying46 ⟨rfl, by kernel_rfl, (opens_int Tryd.underlying3), ⟨rfl, by kernel_rfl, (opens_int Tryd.underlying3), ⟨rfl, by kernel_rfl, (opens_int Tryd.underlying3), ⟨rfl, by kernel_rfl, (opens_slice Tryd.underlying44 (by kernel_rfl) (by kernel_rfl) (opens_int Tryd.underlying3)), (show (4 : Nat) = Tryd.prog.cellsOf 46 from by kernel_rfl)⟩⟩⟩⟩)) h1 hsz (j := 1) (t := 28) rfl rfl
  clear hA0 hval0 hsz0 hsz
  refine (CallsE.run (C.law_SlideAgain W hT a0 w0 a1 len1 cap1 x1)).mono fun e W' ⟨he, bel⟩ => ?_
  subst he
  exact ⟨_, rfl, _, _, _, [], _, [], hW', trodAll_mk1 (shut_bool Tryd.underlying4 _), (trodAll_cons_mk (shut_int Tryd.underlying3 w0) (trodAll_cons_mk (Below.trod laidOut (by kernel_rfl) (of_decide_eq_true (by kernel_rfl)) k1 bel lt1) trodAll_mk0)), rfl, bel.frame _, fun h => by cases h⟩
theorem over : Rows.slideAgainRow.holds Tryd.pinned (OpenSpec.ofChange Rows.slideAgainSpec) :=
  OpenClaim.holds_of_wide 6 Tryd.f6 rfl rfl rfl rfl rfl rfl rfl ⟨rfl, rfl, rfl, rfl, rfl⟩ rfl rfl rfl rfl rfl (by kernel_rfl) Tryd.func6 (by kernel_rfl)
    (of_decide_eq_true (by kernel_rfl)) (by unfold Func.isWrapper; first | (rw [if_pos (by decide +kernel)]; kernel_rfl) | (rw [if_neg (by decide +kernel)]; exact ⟨rfl, rfl⟩))
    (fun os started H enc _ => lifted os started H enc)
theorem proved : Rows.SlideAgainCardSaid :=
  Claim7.holds_tied_plain_at .later [] [.data] true (true, "8842af1f5768910088ba483294da49fdc1b0fa71a619db348602788e91dc2a4b") false over (fun _ h => by cases h) (by kernel_rfl) (fun _ h => by cases h) slideAgain_row_tie rfl ⟨rfl, rfl⟩ (by kernel_rfl) rfl
    (fun f fn hf hfn => by
      obtain rfl : f = 6 := Option.some.inj ((show Tryd.prog.funcNamed "hayloft/hayloftlaw13.SlideAgain" = some 6 by kernel_rfl).symm.trans hf) |>.symm
      obtain rfl : fn = Tryd.f6 := (Option.some.inj (Tryd.func6.symm.trans hfn)).symm
      exact ⟨by kernel_rfl, fun j t ht => by
        rw [Tryd.params6] at ht
        have hm : t ∈ [3, 28] := by simpa using Array.mem_of_getElem? ht
        have hall : ([3, 28].all fun u => !Tryd.prog.wantsStandIn u) = true := by kernel_rfl
        exact (show Tryd.prog.wantsStandIn t = false by simpa using List.all_eq_true.1 hall t hm)⟩)
    (by kernel_rfl)
#print axioms proved
end Go.Proofs.YtklmaeefnmcmlaaDoor.slideAgain
namespace Go.Proofs.YtklmaeefnmcmlaaDoor
/-- The tied card, under a short name, for the claim. -/
theorem slideAgain_holds : Rows.SlideAgainCardSaid := slideAgain.proved
end Go.Proofs.YtklmaeefnmcmlaaDoor
