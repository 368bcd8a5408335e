/-
  Printed by a program: for each Go function a proposition that says what it comes to, and the proof that the code comes to it. No condition beyond what each theorem states.
-/
import Derived.Test.YtklmaeefnmcmlaaDoorProg
import Derived.Test.YtklmaeefnmcmlaaDoorSh
set_option linter.unusedVariables false
set_option maxRecDepth 100000
namespace Go.Proofs.YtklmaeefnmcmlaaDoor.F
open Go Go.RowKit Go.Proofs.YtklmaeefnmcmlaaDoor Go.Proofs.YtklmaeefnmcmlaaDoor.Sh

noncomputable abbrev Pg : Program := Tryd.prog
abbrev law13_SlideWhere.N : FuncId := 3
abbrev law13_SlidePlans.N : FuncId := 4
abbrev law13_SlideKeeps.N : FuncId := 5
abbrev law13_SlideAgain.N : FuncId := 6
abbrev law13_SlideTight.N : FuncId := 7
abbrev law13_alive.N : FuncId := 8
abbrev slide_Where.N : FuncId := 9
abbrev ref13_Where.N : FuncId := 10
abbrev ref10_Copy.N : FuncId := 11
abbrev slide_Plan.N : FuncId := 12
abbrev ref13_Right.N : FuncId := 13
abbrev slide_Right.N : FuncId := 14
abbrev ref10_All.N : FuncId := 15
abbrev ref13_Plan.N : FuncId := 16
abbrev ref13_Same.N : FuncId := 17
abbrev law13_slots.N : FuncId := 18
abbrev class_Size.N : FuncId := 19
abbrev span_Of.N : FuncId := 20
abbrev span_Span_Live.N : FuncId := 21
abbrev span_Span_Pages.N : FuncId := 22
abbrev span_Span_Slots.N : FuncId := 23
abbrev class_Need.N : FuncId := 24
abbrev slide_open.N : FuncId := 25
abbrev slide_Plan_1.N : FuncId := 26
abbrev slide_pack.N : FuncId := 27
abbrev span_Span_Page.N : FuncId := 28
abbrev span_Span_Data.N : FuncId := 29
abbrev ref11_From.N : FuncId := 30
abbrev ref10_Same.N : FuncId := 31
abbrev ref06_Size.N : FuncId := 32
abbrev ref06_Slots.N : FuncId := 33
abbrev ref10_Pages.N : FuncId := 34
abbrev span_Span_At.N : FuncId := 35
abbrev span_Span_Size.N : FuncId := 36
abbrev span_New.N : FuncId := 37
abbrev set_Set_Add.N : FuncId := 38
abbrev span_taken_Live.N : FuncId := 39
abbrev span_taken_Slots.N : FuncId := 40
abbrev class_Of.N : FuncId := 41
abbrev class_Pages.N : FuncId := 42
abbrev class_Slots.N : FuncId := 43
abbrev span_Span_Class.N : FuncId := 44
abbrev span_Span_Has.N : FuncId := 45
abbrev span_Span_Give.N : FuncId := 46
abbrev span_Span_Take.N : FuncId := 47
abbrev set_Set_List.N : FuncId := 48
abbrev ref10_Of.N : FuncId := 49
abbrev ref11_Span_pages.N : FuncId := 50
abbrev ref01_Ints.N : FuncId := 51
abbrev ref06_Pages.N : FuncId := 52
abbrev set_New.N : FuncId := 53
abbrev set_Set_Len.N : FuncId := 54
abbrev set_Set_Has.N : FuncId := 55
abbrev set_Set_Count.N : FuncId := 56
abbrev span_taken_Has.N : FuncId := 57
abbrev set_Set_Del.N : FuncId := 58
abbrev set_Set_Gap.N : FuncId := 59
abbrev set_Set_First.N : FuncId := 60
abbrev ref10_New.N : FuncId := 61
abbrev ref06_Of.N : FuncId := 62
abbrev math_bits_OnesCount64.N : FuncId := 63
abbrev set_Set_next.N : FuncId := 64
abbrev math_bits_TrailingZeros64.N : FuncId := 65
abbrev api_Errno_Error.N : FuncId := 81
abbrev ref11_Cache_Scavenge.N : FuncId := 82
abbrev ref10_Span_Size.N : FuncId := 83
abbrev var_s_door_math_bits_deBruijn64tab_is_laid_by_its_own_initialiser_plain_data_look_11.N : FuncId := 86
abbrev Ty.int64 : TypeId := 2
abbrev Ty.int : TypeId := 3
abbrev Ty.bool : TypeId := 4
abbrev Ty.uint8 : TypeId := 5
abbrev Ty.abi_BoundsErrorCode : TypeId := 6
abbrev Ty.runtime_boundsError : TypeId := 8
abbrev Ty.string : TypeId := 9
abbrev Ty.runtime_errorString : TypeId := 10
abbrev Ty.runtime_plainError : TypeId := 11
abbrev Ty.uintptr : TypeId := 12
abbrev Ty.runtime_errorAddressString : TypeId := 14
abbrev Ty.p_runtime_TypeAssertionError : TypeId := 15
abbrev Ty.p_runtime_PanicNilError : TypeId := 16
abbrev Ty.p_abi_Type : TypeId := 17
abbrev Ty.maps_unhashableTypeError : TypeId := 19
abbrev Ty.int32 : TypeId := 21
abbrev Ty.sl_api_Move : TypeId := 22
abbrev Ty.api_Move : TypeId := 25
abbrev Ty.sl_api_Span : TypeId := 28
abbrev Ty.api_Errno : TypeId := 30
abbrev Ty.sl_api_Run : TypeId := 38
abbrev Ty.sl_a2_int : TypeId := 40
abbrev Ty.api_Run : TypeId := 42
abbrev Ty.a2_int : TypeId := 43
abbrev Ty.sl_int : TypeId := 44
abbrev Ty.api_Span : TypeId := 46
abbrev Ty.a8_int : TypeId := 48
abbrev Ty.p_span_Span : TypeId := 49
abbrev Ty.uint64 : TypeId := 54
abbrev Ty.sl_p_span_Span : TypeId := 55
abbrev Ty.p_ref11_Cache : TypeId := 61
abbrev Ty.p_set_Set : TypeId := 69
abbrev Ty.span_taken : TypeId := 71
abbrev Ty.span_Span : TypeId := 73
abbrev Ty.a7_int : TypeId := 75
abbrev Ty.sl_ref11_Span : TypeId := 78
abbrev Ty.ref11_Cache : TypeId := 80
abbrev Ty.p_ref10_Span : TypeId := 81
abbrev Ty.sl_bool : TypeId := 84
abbrev Ty.ref10_Span : TypeId := 86
abbrev Ty.ref11_Span : TypeId := 88
abbrev Ty.sl_uint64 : TypeId := 91
abbrev Ty.set_Set : TypeId := 93
abbrev Ty.uint : TypeId := 97
abbrev Ty.a64_uint8 : TypeId := 98
abbrev Ty.runtime_TypeAssertionError : TypeId := 101
abbrev Ty.a0_p_runtime_PanicNilError : TypeId := 102
abbrev Ty.runtime_PanicNilError : TypeId := 104
abbrev Ty.uint32 : TypeId := 105
abbrev Ty.abi_TFlag : TypeId := 106
abbrev Ty.abi_Kind : TypeId := 107
abbrev Ty.p_uint8 : TypeId := 109
abbrev Ty.abi_NameOff : TypeId := 110
abbrev Ty.abi_TypeOff : TypeId := 111
abbrev Ty.abi_Type : TypeId := 113
abbrev Ty.unsafe_Pointer : TypeId := 114

/-! ### hayloft/hayloftlaw13.SlideWhere: function 3 -/
abbrev law13_SlideWhere.p7 (L0 : Int → Option Addr → Nat → Nat → Option Addr → Nat → Nat → Int → Int → World → Prop) (K : Value → World → Prop) (x0 : Int) (x1A : Option Addr) (x1n : Nat) (x1c : Nat) (x9A : Option Addr) (x9n : Nat) (x9c : Nat) (x10 : Int) (x11 : Int) (w : World) : Prop :=
  L0 x0 x1A x1n x1c x9A x9n x9c x10 (IntKind.wrap .i64 (x11 + (1 : Int))) w
abbrev law13_SlideWhere.p6 (L0 : Int → Option Addr → Nat → Nat → Option Addr → Nat → Nat → Int → Int → World → Prop) (K : Value → World → Prop) (x0 : Int) (x1A : Option Addr) (x1n : Nat) (x1c : Nat) (x9A : Option Addr) (x9n : Nat) (x9c : Nat) (x10 : Int) (x11 : Int) (x42 : Bool) (w : World) : Prop :=
  condP x42 (K (.bool true) w) (law13_SlideWhere.p7 L0 K x0 x1A x1n x1c x9A x9n x9c x10 x11 w)
abbrev law13_SlideWhere.p5 (L0 : Int → Option Addr → Nat → Nat → Option Addr → Nat → Nat → Int → Int → World → Prop) (K : Value → World → Prop) (x0 : Int) (x1A : Option Addr) (x1n : Nat) (x1c : Nat) (x6 : Addr) (x9A : Option Addr) (x9n : Nat) (x9c : Nat) (x10 : Int) (x11 : Int) (w : World) : Prop :=
  ∃ (n12 : Int), w.cell? x6 = some (.int .i64 n12) ∧ condP (decide (n12 < (0 : Int))) (law13_SlideWhere.p6 L0 K x0 x1A x1n x1c x9A x9n x9c x10 x11 true w) (∃ (n13 : Int), w.cell? (x6.add 1) = some (.int .i64 n13) ∧ condP (decide (n13 < (0 : Int))) (law13_SlideWhere.p6 L0 K x0 x1A x1n x1c x9A x9n x9c x10 x11 true w) (∃ (n14 : Int), w.cell? (x6.add 2) = some (.int .i64 n14) ∧ condP (decide (n14 < (0 : Int))) (law13_SlideWhere.p6 L0 K x0 x1A x1n x1c x9A x9n x9c x10 x11 true w) (∃ (n15 : Int), w.cell? x6 = some (.int .i64 n15) ∧ condP (decide ((1099511627776 : Int) < n15)) (law13_SlideWhere.p6 L0 K x0 x1A x1n x1c x9A x9n x9c x10 x11 true w) (∃ (n16 : Int), w.cell? (x6.add 1) = some (.int .i64 n16) ∧ condP (decide ((1099511627776 : Int) < n16)) (law13_SlideWhere.p6 L0 K x0 x1A x1n x1c x9A x9n x9c x10 x11 true w) (∃ (n17 : Int), w.cell? (x6.add 2) = some (.int .i64 n17) ∧ law13_SlideWhere.p6 L0 K x0 x1A x1n x1c x9A x9n x9c x10 x11 (decide ((1099511627776 : Int) < n17)) w)))))
abbrev law13_SlideWhere.p4 (L0 : Int → Option Addr → Nat → Nat → Option Addr → Nat → Nat → Int → Int → World → Prop) (K : Value → World → Prop) (x0 : Int) (x1A : Option Addr) (x1n : Nat) (x1c : Nat) (x9A : Option Addr) (x9n : Nat) (x9c : Nat) (x10 : Int) (x11 : Int) (w : World) : Prop :=
  (0 ≤ x11 ∧ x11 < ((x9n : Nat) : Int)) ∧ ∃ (a4 : Addr), x9A = some a4 ∧ ∃ (n5 : Int), w.cell? (a4.add (x11.toNat * 3)) = some (.int .i64 n5) ∧ ∃ (n6 : Int), w.cell? ((a4.add (x11.toNat * 3)).add 1) = some (.int .i64 n6) ∧ ∃ (n7 : Int), w.cell? ((a4.add (x11.toNat * 3)).add 2) = some (.int .i64 n7) ∧ wlet (w.alloc (.cells #[.int .i64 0, .int .i64 0, .int .i64 0] 25)) fun w8 => canStore w8 (⟨w.heap.size, 0, none⟩) ∧ wlet (w8.setCell (⟨w.heap.size, 0, none⟩) (.int .i64 n5)) fun w9 => canStore w9 (⟨w.heap.size, 1, none⟩) ∧ wlet (w9.setCell (⟨w.heap.size, 1, none⟩) (.int .i64 n6)) fun w10 => canStore w10 (⟨w.heap.size, 2, none⟩) ∧ wlet (w10.setCell (⟨w.heap.size, 2, none⟩) (.int .i64 n7)) fun w11 => law13_SlideWhere.p5 L0 K x0 x1A x1n x1c (⟨w.heap.size, 0, none⟩) x9A x9n x9c x10 x11 w11
abbrev law13_SlideWhere.p10 (K : Value → World → Prop) (x0 : Int) (x1A : Option Addr) (x1n : Nat) (x1c : Nat) (w : World) : Prop :=
  CallsE Tryd.prog 9 #[.int .i64 x0, .slice x1A x1n x1c] w (fun v18 w19 => ∃ (n20 : Int), v18 = .int .i64 n20 ∧ CallsE Tryd.prog 10 #[.int .i64 x0, .slice x1A x1n x1c] w19 (fun v21 w22 => ∃ (n23 : Int), v21 = .int .i64 n23 ∧ K (.bool (n20 == n23)) w22))
abbrev law13_SlideWhere.p9 (K : Value → World → Prop) (x0 : Int) (x1A : Option Addr) (x1n : Nat) (x1c : Nat) (x54 : Bool) (w : World) : Prop :=
  condP x54 (K (.bool true) w) (law13_SlideWhere.p10 K x0 x1A x1n x1c w)
abbrev law13_SlideWhere.p8 (K : Value → World → Prop) (x0 : Int) (x1A : Option Addr) (x1n : Nat) (x1c : Nat) (w : World) : Prop :=
  condP (decide (x0 < (0 : Int))) (law13_SlideWhere.p9 K x0 x1A x1n x1c true w) (condP (decide ((1099511627776 : Int) < x0)) (law13_SlideWhere.p9 K x0 x1A x1n x1c true w) (law13_SlideWhere.p9 K x0 x1A x1n x1c (decide ((1000 : Int) < ((x1n : Nat) : Int))) w))
abbrev law13_SlideWhere.p3 (L0 : Int → Option Addr → Nat → Nat → Option Addr → Nat → Nat → Int → Int → World → Prop) (K : Value → World → Prop) (x0 : Int) (x1A : Option Addr) (x1n : Nat) (x1c : Nat) (x9A : Option Addr) (x9n : Nat) (x9c : Nat) (x10 : Int) (x11 : Int) (x12 : Bool) (w : World) : Prop :=
  condP x12 (law13_SlideWhere.p4 L0 K x0 x1A x1n x1c x9A x9n x9c x10 x11 w) (law13_SlideWhere.p8 K x0 x1A x1n x1c w)
abbrev law13_SlideWhere.b0 (L0 : Int → Option Addr → Nat → Nat → Option Addr → Nat → Nat → Int → Int → World → Prop) (K : Value → World → Prop) (x0 : Int) (x1A : Option Addr) (x1n : Nat) (x1c : Nat) (x9A : Option Addr) (x9n : Nat) (x9c : Nat) (x10 : Int) (x11 : Int) (w : World) : Prop :=
  law13_SlideWhere.p3 L0 K x0 x1A x1n x1c x9A x9n x9c x10 x11 (decide (x11 < x10)) w
def law13_SlideWhere.l0 (K : Value → World → Prop) (k : Nat) : Int → Option Addr → Nat → Nat → Option Addr → Nat → Nat → Int → Int → World → Prop :=
  Nat.rec (motive := fun _ => Int → Option Addr → Nat → Nat → Option Addr → Nat → Nat → Int → Int → World → Prop) (fun _ _ _ _ _ _ _ _ _ _ => False) (fun _ ih => law13_SlideWhere.b0 ih K) k
theorem law13_SlideWhere.l0_succ (K : Value → World → Prop) (k : Nat) (x0 : Int) (x1A : Option Addr) (x1n : Nat) (x1c : Nat) (x9A : Option Addr) (x9n : Nat) (x9c : Nat) (x10 : Int) (x11 : Int) (w : World) : law13_SlideWhere.l0 K (k + 1) x0 x1A x1n x1c x9A x9n x9c x10 x11 w = law13_SlideWhere.b0 (law13_SlideWhere.l0 K k) K x0 x1A x1n x1c x9A x9n x9c x10 x11 w := rfl
abbrev law13_SlideWhere.p2 (K : Value → World → Prop) (x0 : Int) (x1A : Option Addr) (x1n : Nat) (x1c : Nat) (x9A : Option Addr) (x9n : Nat) (x9c : Nat) (x10 : Int) (x11 : Int) (w : World) : Prop :=
  ∃ k, law13_SlideWhere.l0 K k x0 x1A x1n x1c x9A x9n x9c x10 x11 w
abbrev law13_SlideWhere.p1 (K : Value → World → Prop) (x0 : Int) (x1A : Option Addr) (x1n : Nat) (x1c : Nat) (w : World) : Prop :=
  law13_SlideWhere.p2 K x0 x1A x1n x1c x1A x1n x1c ((x1n : Nat) : Int) 0 w
abbrev law13_SlideWhere.p0 (K : Value → World → Prop) (x0 : Int) (x1A : Option Addr) (x1n : Nat) (x1c : Nat) (w : World) : Prop :=
  CallsE Tryd.prog 8 #[] w (fun v1 w2 => ∃ (b3 : Bool), v1 = .bool b3 ∧ condP (!b3) (K (.bool false) w2) (law13_SlideWhere.p1 K x0 x1A x1n x1c w2))
abbrev law13_SlideWhere.F (q0 : Int) (q1A : Option Addr) (q1n : Nat) (q1c : Nat) (K : Value → World → Prop) (w : World) : Prop :=
  law13_SlideWhere.p0 K q0 q1A q1n q1c w
theorem law13_SlideWhere.ok {q0 : Int} {q1A : Option Addr} {q1n : Nat} {q1c : Nat} {K : Value → World → Prop} {w : World} (h : law13_SlideWhere.F q0 q1A q1n q1c K w) :
    CallsE Tryd.prog 3 #[.int .i64 q0, .slice q1A q1n q1c] w K := by
  refine calls_of_J (n := 62) (rs := [.tmp 4]) Tryd.func3 rfl rfl rfl rfl ?_
  refine J_seq (fun σ w => vI .i64 (σ 0) fun x0 => vS (σ 1) fun x1A x1n x1c => law13_SlideWhere.p0 K x0 x1A x1n x1c w) ?_ ?_
  ·
    exact sh_sound _ _ _ _ (Eq.mp (by kernel_rfl) h)
  · intro σ w h
    obtain ⟨x0, e0, h⟩ := vI_elim h
    obtain ⟨x1A, x1n, x1c, e1, h⟩ := vS_elim h
    refine J.sub ?_ (((Sub.base _).upd e0).upd e1)
    clear e0 e1
    refine J_seq (fun σ w => vI .i64 (σ 0) fun x0 => vS (σ 1) fun x1A x1n x1c => law13_SlideWhere.p1 K x0 x1A x1n x1c w) ?_ ?_
    ·
      exact sh_sound _ _ _ _ (Eq.mp (by kernel_rfl) h)
    · intro σ w h
      obtain ⟨x0, e0, h⟩ := vI_elim h
      obtain ⟨x1A, x1n, x1c, e1, h⟩ := vS_elim h
      refine J.sub ?_ (((Sub.base _).upd e0).upd e1)
      clear e0 e1
      refine J_seq (fun σ w => vI .i64 (σ 0) fun x0 => vS (σ 1) fun x1A x1n x1c => law13_SlideWhere.p8 K x0 x1A x1n x1c w) ?_ ?_
      ·
        refine J_seq (fun σ w => vI .i64 (σ 0) fun x0 => vS (σ 1) fun x1A x1n x1c => vS (σ 9) fun x9A x9n x9c => vI .i64 (σ 10) fun x10 => vI .i64 (σ 11) fun x11 => law13_SlideWhere.p2 K x0 x1A x1n x1c x9A x9n x9c x10 x11 w) ?_ ?_
        ·
          exact sh_sound _ _ _ _ (Eq.mp (by kernel_rfl) h)
        · intro σ w h
          obtain ⟨x0, e0, h⟩ := vI_elim h
          obtain ⟨x1A, x1n, x1c, e1, h⟩ := vS_elim h
          obtain ⟨x9A, x9n, x9c, e9, h⟩ := vS_elim h
          obtain ⟨x10, e10, h⟩ := vI_elim h
          obtain ⟨x11, e11, h⟩ := vI_elim h
          refine J.sub ?_ ((((((Sub.base _).upd e0).upd e1).upd e9).upd e10).upd e11)
          clear e0 e1 e9 e10 e11
          refine J_block ?_
          refine J_loop (fun k σ w => vI .i64 (σ 0) fun x0 => vS (σ 1) fun x1A x1n x1c => vS (σ 9) fun x9A x9n x9c => vI .i64 (σ 10) fun x10 => vI .i64 (σ 11) fun x11 => law13_SlideWhere.l0 K k x0 x1A x1n x1c x9A x9n x9c x10 x11 w) (Eq.mp (by kernel_rfl) h) ?_ ?_
          · intro σ w h
            obtain ⟨x0, e0, h⟩ := vI_elim h
            obtain ⟨x1A, x1n, x1c, e1, h⟩ := vS_elim h
            obtain ⟨x9A, x9n, x9c, e9, h⟩ := vS_elim h
            obtain ⟨x10, e10, h⟩ := vI_elim h
            obtain ⟨x11, e11, h⟩ := vI_elim h
            exact h
          · intro k0 σ w h
            obtain ⟨x0, e0, h⟩ := vI_elim h
            obtain ⟨x1A, x1n, x1c, e1, h⟩ := vS_elim h
            obtain ⟨x9A, x9n, x9c, e9, h⟩ := vS_elim h
            obtain ⟨x10, e10, h⟩ := vI_elim h
            obtain ⟨x11, e11, h⟩ := vI_elim h
            refine J.sub ?_ ((((((Sub.base _).upd e0).upd e1).upd e9).upd e10).upd e11)
            clear e0 e1 e9 e10 e11
            refine J_seq (fun σ w => vI .i64 (σ 0) fun x0 => vS (σ 1) fun x1A x1n x1c => vS (σ 9) fun x9A x9n x9c => vI .i64 (σ 10) fun x10 => vI .i64 (σ 11) fun x11 => vB (σ 12) fun x12 => law13_SlideWhere.p3 (law13_SlideWhere.l0 K k0) K x0 x1A x1n x1c x9A x9n x9c x10 x11 x12 w) ?_ ?_
            ·
              exact sh_sound _ _ _ _ (Eq.mp (by kernel_rfl) h)
            · intro σ w h
              obtain ⟨x0, e0, h⟩ := vI_elim h
              obtain ⟨x1A, x1n, x1c, e1, h⟩ := vS_elim h
              obtain ⟨x9A, x9n, x9c, e9, h⟩ := vS_elim h
              obtain ⟨x10, e10, h⟩ := vI_elim h
              obtain ⟨x11, e11, h⟩ := vI_elim h
              obtain ⟨x12, e12, h⟩ := vB_elim h
              refine J.sub ?_ (((((((Sub.base _).upd e0).upd e1).upd e9).upd e10).upd e11).upd e12)
              clear e0 e1 e9 e10 e11 e12
              refine J_seq (fun σ w => vI .i64 (σ 0) fun x0 => vS (σ 1) fun x1A x1n x1c => vS (σ 9) fun x9A x9n x9c => vI .i64 (σ 10) fun x10 => vI .i64 (σ 11) fun x11 => law13_SlideWhere.p4 (law13_SlideWhere.l0 K k0) K x0 x1A x1n x1c x9A x9n x9c x10 x11 w) ?_ ?_
              ·
                exact sh_sound _ _ _ _ (Eq.mp (by kernel_rfl) h)
              · intro σ w h
                obtain ⟨x0, e0, h⟩ := vI_elim h
                obtain ⟨x1A, x1n, x1c, e1, h⟩ := vS_elim h
                obtain ⟨x9A, x9n, x9c, e9, h⟩ := vS_elim h
                obtain ⟨x10, e10, h⟩ := vI_elim h
                obtain ⟨x11, e11, h⟩ := vI_elim h
                refine J.sub ?_ ((((((Sub.base _).upd e0).upd e1).upd e9).upd e10).upd e11)
                clear e0 e1 e9 e10 e11
                refine J_seq (fun σ w => vI .i64 (σ 0) fun x0 => vS (σ 1) fun x1A x1n x1c => vS (σ 9) fun x9A x9n x9c => vI .i64 (σ 10) fun x10 => vI .i64 (σ 11) fun x11 => law13_SlideWhere.p7 (law13_SlideWhere.l0 K k0) K x0 x1A x1n x1c x9A x9n x9c x10 x11 w) ?_ ?_
                ·
                  refine J_block ?_
                  refine J_seq (fun σ w => vI .i64 (σ 0) fun x0 => vS (σ 1) fun x1A x1n x1c => vPa (σ 6) fun x6 => vS (σ 9) fun x9A x9n x9c => vI .i64 (σ 10) fun x10 => vI .i64 (σ 11) fun x11 => law13_SlideWhere.p5 (law13_SlideWhere.l0 K k0) K x0 x1A x1n x1c x6 x9A x9n x9c x10 x11 w) ?_ ?_
                  ·
                    exact sh_sound _ _ _ _ (Eq.mp (by kernel_rfl) h)
                  · intro σ w h
                    obtain ⟨x0, e0, h⟩ := vI_elim h
                    obtain ⟨x1A, x1n, x1c, e1, h⟩ := vS_elim h
                    obtain ⟨x6, e6, h⟩ := vPa_elim h
                    obtain ⟨x9A, x9n, x9c, e9, h⟩ := vS_elim h
                    obtain ⟨x10, e10, h⟩ := vI_elim h
                    obtain ⟨x11, e11, h⟩ := vI_elim h
                    refine J.sub ?_ (((((((Sub.base _).upd e0).upd e1).upd e6).upd e9).upd e10).upd e11)
                    clear e0 e1 e6 e9 e10 e11
                    refine J_seq (fun σ w => vI .i64 (σ 0) fun x0 => vS (σ 1) fun x1A x1n x1c => vS (σ 9) fun x9A x9n x9c => vI .i64 (σ 10) fun x10 => vI .i64 (σ 11) fun x11 => vB (σ 42) fun x42 => law13_SlideWhere.p6 (law13_SlideWhere.l0 K k0) K x0 x1A x1n x1c x9A x9n x9c x10 x11 x42 w) ?_ ?_
                    ·
                      exact sh_sound _ _ _ _ (Eq.mp (by kernel_rfl) h)
                    · intro σ w h
                      obtain ⟨x0, e0, h⟩ := vI_elim h
                      obtain ⟨x1A, x1n, x1c, e1, h⟩ := vS_elim h
                      obtain ⟨x9A, x9n, x9c, e9, h⟩ := vS_elim h
                      obtain ⟨x10, e10, h⟩ := vI_elim h
                      obtain ⟨x11, e11, h⟩ := vI_elim h
                      obtain ⟨x42, e42, h⟩ := vB_elim h
                      refine J.sub ?_ (((((((Sub.base _).upd e0).upd e1).upd e9).upd e10).upd e11).upd e42)
                      clear e0 e1 e9 e10 e11 e42
                      exact sh_sound _ _ _ _ (Eq.mp (by kernel_rfl) h)
                · intro σ w h
                  obtain ⟨x0, e0, h⟩ := vI_elim h
                  obtain ⟨x1A, x1n, x1c, e1, h⟩ := vS_elim h
                  obtain ⟨x9A, x9n, x9c, e9, h⟩ := vS_elim h
                  obtain ⟨x10, e10, h⟩ := vI_elim h
                  obtain ⟨x11, e11, h⟩ := vI_elim h
                  refine J.sub ?_ ((((((Sub.base _).upd e0).upd e1).upd e9).upd e10).upd e11)
                  clear e0 e1 e9 e10 e11
                  exact sh_sound _ _ _ _ (Eq.mp (by kernel_rfl) h)
      · intro σ w h
        obtain ⟨x0, e0, h⟩ := vI_elim h
        obtain ⟨x1A, x1n, x1c, e1, h⟩ := vS_elim h
        refine J.sub ?_ (((Sub.base _).upd e0).upd e1)
        clear e0 e1
        refine J_seq (fun σ w => vI .i64 (σ 0) fun x0 => vS (σ 1) fun x1A x1n x1c => law13_SlideWhere.p10 K x0 x1A x1n x1c w) ?_ ?_
        ·
          refine J_seq (fun σ w => vI .i64 (σ 0) fun x0 => vS (σ 1) fun x1A x1n x1c => vB (σ 54) fun x54 => law13_SlideWhere.p9 K x0 x1A x1n x1c x54 w) ?_ ?_
          ·
            exact sh_sound _ _ _ _ (Eq.mp (by kernel_rfl) h)
          · intro σ w h
            obtain ⟨x0, e0, h⟩ := vI_elim h
            obtain ⟨x1A, x1n, x1c, e1, h⟩ := vS_elim h
            obtain ⟨x54, e54, h⟩ := vB_elim h
            refine J.sub ?_ ((((Sub.base _).upd e0).upd e1).upd e54)
            clear e0 e1 e54
            exact sh_sound _ _ _ _ (Eq.mp (by kernel_rfl) h)
        · intro σ w h
          obtain ⟨x0, e0, h⟩ := vI_elim h
          obtain ⟨x1A, x1n, x1c, e1, h⟩ := vS_elim h
          refine J.sub ?_ (((Sub.base _).upd e0).upd e1)
          clear e0 e1
          exact sh_sound _ _ _ _ (Eq.mp (by kernel_rfl) h)

/-! ### hayloft/hayloftlaw13.SlidePlans: function 4 -/
abbrev law13_SlidePlans.p9 (K : Value → World → Prop) (x4 : Bool) (w : World) : Prop :=
  K (.bool x4) w
abbrev law13_SlidePlans.p12 (K : Value → World → Prop) (x4 : Bool) (w : World) : Prop :=
  K (.bool x4) w
abbrev law13_SlidePlans.p11 (K : Value → World → Prop) (x6A : Option Addr) (x6n : Nat) (x6c : Nat) (x7A : Option Addr) (x7n : Nat) (x7c : Nat) (x8 : Int) (x10A : Option Addr) (x10n : Nat) (x10c : Nat) (x11A : Option Addr) (x11n : Nat) (x11c : Nat) (w : World) : Prop :=
  condP (x8 == (0 : Int)) (CallsE Tryd.prog 15 #[.slice x6A x6n x6c, .slice x10A x10n x10c] w (fun v32 w33 => ∃ (b34 : Bool), v32 = .bool b34 ∧ condP b34 (CallsE Tryd.prog 17 #[.slice x7A x7n x7c, .slice x11A x11n x11c] w33 (fun v35 w36 => ∃ (b37 : Bool), v35 = .bool b37 ∧ law13_SlidePlans.p12 K b37 w36)) (law13_SlidePlans.p12 K false w33))) (law13_SlidePlans.p12 K false w)
abbrev law13_SlidePlans.p10 (K : Value → World → Prop) (x1A : Option Addr) (x1n : Nat) (x1c : Nat) (x6A : Option Addr) (x6n : Nat) (x6c : Nat) (x7A : Option Addr) (x7n : Nat) (x7c : Nat) (x8 : Int) (w : World) : Prop :=
  CallsE Tryd.prog 16 #[.slice x1A x1n x1c] w (fun v24 w25 => ∃ (A26 : Option Addr) (m27 : Nat) (c28 : Nat) (A29 : Option Addr) (m30 : Nat) (c31 : Nat), v24 = .tuple #[.slice A26 m27 c28, .slice A29 m30 c31] ∧ law13_SlidePlans.p11 K x6A x6n x6c x7A x7n x7c x8 A26 m27 c28 A29 m30 c31 w25)
abbrev law13_SlidePlans.p8 (K : Value → World → Prop) (x1A : Option Addr) (x1n : Nat) (x1c : Nat) (x6A : Option Addr) (x6n : Nat) (x6c : Nat) (x7A : Option Addr) (x7n : Nat) (x7c : Nat) (x8 : Int) (x41 : Bool) (w : World) : Prop :=
  condP x41 (condP (x8 == (4 : Int)) (condP (((x6n : Nat) : Int) == (0 : Int)) (law13_SlidePlans.p9 K (((x7n : Nat) : Int) == (0 : Int)) w) (law13_SlidePlans.p9 K false w)) (law13_SlidePlans.p9 K false w)) (law13_SlidePlans.p10 K x1A x1n x1c x6A x6n x6c x7A x7n x7c x8 w)
abbrev law13_SlidePlans.p7 (K : Value → World → Prop) (x1A : Option Addr) (x1n : Nat) (x1c : Nat) (x6A : Option Addr) (x6n : Nat) (x6c : Nat) (x7A : Option Addr) (x7n : Nat) (x7c : Nat) (x8 : Int) (x9 : Bool) (w : World) : Prop :=
  law13_SlidePlans.p8 K x1A x1n x1c x6A x6n x6c x7A x7n x7c x8 (!x9) w
abbrev law13_SlidePlans.p6 (K : Value → World → Prop) (x1A : Option Addr) (x1n : Nat) (x1c : Nat) (x6A : Option Addr) (x6n : Nat) (x6c : Nat) (x7A : Option Addr) (x7n : Nat) (x7c : Nat) (x8 : Int) (x9 : Bool) (x39 : Bool) (w : World) : Prop :=
  condP x39 (K (.bool false) w) (law13_SlidePlans.p7 K x1A x1n x1c x6A x6n x6c x7A x7n x7c x8 x9 w)
abbrev law13_SlidePlans.p5 (K : Value → World → Prop) (x0 : Int) (x1A : Option Addr) (x1n : Nat) (x1c : Nat) (x5A : Option Addr) (x5n : Nat) (x5c : Nat) (x6A : Option Addr) (x6n : Nat) (x6c : Nat) (x7A : Option Addr) (x7n : Nat) (x7c : Nat) (x8 : Int) (x9 : Bool) (w : World) : Prop :=
  CallsE Tryd.prog 14 #[.int .i64 x0, .slice x5A x5n x5c] w (fun v21 w22 => ∃ (b23 : Bool), v21 = .bool b23 ∧ condP (!(b23 == x9)) (law13_SlidePlans.p6 K x1A x1n x1c x6A x6n x6c x7A x7n x7c x8 x9 true w22) (CallsE Tryd.prog 15 #[.slice x5A x5n x5c, .slice x1A x1n x1c] w22 (fun v38 w39 => ∃ (b40 : Bool), v38 = .bool b40 ∧ law13_SlidePlans.p6 K x1A x1n x1c x6A x6n x6c x7A x7n x7c x8 x9 (!b40) w39)))
abbrev law13_SlidePlans.p4 (K : Value → World → Prop) (x0 : Int) (x1A : Option Addr) (x1n : Nat) (x1c : Nat) (x5A : Option Addr) (x5n : Nat) (x5c : Nat) (x6A : Option Addr) (x6n : Nat) (x6c : Nat) (x7A : Option Addr) (x7n : Nat) (x7c : Nat) (x8 : Int) (w : World) : Prop :=
  CallsE Tryd.prog 13 #[.int .i64 x0, .slice x1A x1n x1c] w (fun v18 w19 => ∃ (b20 : Bool), v18 = .bool b20 ∧ law13_SlidePlans.p5 K x0 x1A x1n x1c x5A x5n x5c x6A x6n x6c x7A x7n x7c x8 b20 w19)
abbrev law13_SlidePlans.p3 (K : Value → World → Prop) (x0 : Int) (x1A : Option Addr) (x1n : Nat) (x1c : Nat) (x5A : Option Addr) (x5n : Nat) (x5c : Nat) (w : World) : Prop :=
  CallsE Tryd.prog 12 #[.int .i64 x0, .slice x5A x5n x5c] w (fun v9 w10 => ∃ (A11 : Option Addr) (m12 : Nat) (c13 : Nat) (A14 : Option Addr) (m15 : Nat) (c16 : Nat) (n17 : Int), v9 = .tuple #[.slice A11 m12 c13, .slice A14 m15 c16, .int .i64 n17] ∧ law13_SlidePlans.p4 K x0 x1A x1n x1c x5A x5n x5c A11 m12 c13 A14 m15 c16 n17 w10)
abbrev law13_SlidePlans.p2 (K : Value → World → Prop) (x0 : Int) (x1A : Option Addr) (x1n : Nat) (x1c : Nat) (w : World) : Prop :=
  CallsE Tryd.prog 11 #[.slice x1A x1n x1c] w (fun v4 w5 => ∃ (A6 : Option Addr) (m7 : Nat) (c8 : Nat), v4 = .slice A6 m7 c8 ∧ law13_SlidePlans.p3 K x0 x1A x1n x1c A6 m7 c8 w5)
abbrev law13_SlidePlans.p1 (K : Value → World → Prop) (x0 : Int) (x1A : Option Addr) (x1n : Nat) (x1c : Nat) (w : World) : Prop :=
  condP (decide ((300 : Int) < ((x1n : Nat) : Int))) (K (.bool true) w) (law13_SlidePlans.p2 K x0 x1A x1n x1c w)
abbrev law13_SlidePlans.p0 (K : Value → World → Prop) (x0 : Int) (x1A : Option Addr) (x1n : Nat) (x1c : Nat) (w : World) : Prop :=
  CallsE Tryd.prog 8 #[] w (fun v1 w2 => ∃ (b3 : Bool), v1 = .bool b3 ∧ condP (!b3) (K (.bool false) w2) (law13_SlidePlans.p1 K x0 x1A x1n x1c w2))
abbrev law13_SlidePlans.F (q0 : Int) (q1A : Option Addr) (q1n : Nat) (q1c : Nat) (K : Value → World → Prop) (w : World) : Prop :=
  law13_SlidePlans.p0 K q0 q1A q1n q1c w
theorem law13_SlidePlans.ok {q0 : Int} {q1A : Option Addr} {q1n : Nat} {q1c : Nat} {K : Value → World → Prop} {w : World} (h : law13_SlidePlans.F q0 q1A q1n q1c K w) :
    CallsE Tryd.prog 4 #[.int .i64 q0, .slice q1A q1n q1c] w K := by
  refine calls_of_J (n := 71) (rs := [.tmp 4]) Tryd.func4 rfl rfl rfl rfl ?_
  refine J_seq (fun σ w => vI .i64 (σ 0) fun x0 => vS (σ 1) fun x1A x1n x1c => law13_SlidePlans.p0 K x0 x1A x1n x1c w) ?_ ?_
  ·
    exact sh_sound _ _ _ _ (Eq.mp (by kernel_rfl) h)
  · intro σ w h
    obtain ⟨x0, e0, h⟩ := vI_elim h
    obtain ⟨x1A, x1n, x1c, e1, h⟩ := vS_elim h
    refine J.sub ?_ (((Sub.base _).upd e0).upd e1)
    clear e0 e1
    refine J_seq (fun σ w => vI .i64 (σ 0) fun x0 => vS (σ 1) fun x1A x1n x1c => law13_SlidePlans.p1 K x0 x1A x1n x1c w) ?_ ?_
    ·
      exact sh_sound _ _ _ _ (Eq.mp (by kernel_rfl) h)
    · intro σ w h
      obtain ⟨x0, e0, h⟩ := vI_elim h
      obtain ⟨x1A, x1n, x1c, e1, h⟩ := vS_elim h
      refine J.sub ?_ (((Sub.base _).upd e0).upd e1)
      clear e0 e1
      refine J_seq (fun σ w => vI .i64 (σ 0) fun x0 => vS (σ 1) fun x1A x1n x1c => law13_SlidePlans.p2 K x0 x1A x1n x1c w) ?_ ?_
      ·
        exact sh_sound _ _ _ _ (Eq.mp (by kernel_rfl) h)
      · intro σ w h
        obtain ⟨x0, e0, h⟩ := vI_elim h
        obtain ⟨x1A, x1n, x1c, e1, h⟩ := vS_elim h
        refine J.sub ?_ (((Sub.base _).upd e0).upd e1)
        clear e0 e1
        refine J_seq (fun σ w => vI .i64 (σ 0) fun x0 => vS (σ 1) fun x1A x1n x1c => vS (σ 5) fun x5A x5n x5c => law13_SlidePlans.p3 K x0 x1A x1n x1c x5A x5n x5c w) ?_ ?_
        ·
          exact sh_sound _ _ _ _ (Eq.mp (by kernel_rfl) h)
        · intro σ w h
          obtain ⟨x0, e0, h⟩ := vI_elim h
          obtain ⟨x1A, x1n, x1c, e1, h⟩ := vS_elim h
          obtain ⟨x5A, x5n, x5c, e5, h⟩ := vS_elim h
          refine J.sub ?_ ((((Sub.base _).upd e0).upd e1).upd e5)
          clear e0 e1 e5
          refine J_seq (fun σ w => vI .i64 (σ 0) fun x0 => vS (σ 1) fun x1A x1n x1c => vS (σ 5) fun x5A x5n x5c => vS (σ 6) fun x6A x6n x6c => vS (σ 7) fun x7A x7n x7c => vI .i64 (σ 8) fun x8 => law13_SlidePlans.p4 K x0 x1A x1n x1c x5A x5n x5c x6A x6n x6c x7A x7n x7c x8 w) ?_ ?_
          ·
            exact sh_sound _ _ _ _ (Eq.mp (by kernel_rfl) h)
          · intro σ w h
            obtain ⟨x0, e0, h⟩ := vI_elim h
            obtain ⟨x1A, x1n, x1c, e1, h⟩ := vS_elim h
            obtain ⟨x5A, x5n, x5c, e5, h⟩ := vS_elim h
            obtain ⟨x6A, x6n, x6c, e6, h⟩ := vS_elim h
            obtain ⟨x7A, x7n, x7c, e7, h⟩ := vS_elim h
            obtain ⟨x8, e8, h⟩ := vI_elim h
            refine J.sub ?_ (((((((Sub.base _).upd e0).upd e1).upd e5).upd e6).upd e7).upd e8)
            clear e0 e1 e5 e6 e7 e8
            refine J_seq (fun σ w => vI .i64 (σ 0) fun x0 => vS (σ 1) fun x1A x1n x1c => vS (σ 5) fun x5A x5n x5c => vS (σ 6) fun x6A x6n x6c => vS (σ 7) fun x7A x7n x7c => vI .i64 (σ 8) fun x8 => vB (σ 9) fun x9 => law13_SlidePlans.p5 K x0 x1A x1n x1c x5A x5n x5c x6A x6n x6c x7A x7n x7c x8 x9 w) ?_ ?_
            ·
              exact sh_sound _ _ _ _ (Eq.mp (by kernel_rfl) h)
            · intro σ w h
              obtain ⟨x0, e0, h⟩ := vI_elim h
              obtain ⟨x1A, x1n, x1c, e1, h⟩ := vS_elim h
              obtain ⟨x5A, x5n, x5c, e5, h⟩ := vS_elim h
              obtain ⟨x6A, x6n, x6c, e6, h⟩ := vS_elim h
              obtain ⟨x7A, x7n, x7c, e7, h⟩ := vS_elim h
              obtain ⟨x8, e8, h⟩ := vI_elim h
              obtain ⟨x9, e9, h⟩ := vB_elim h
              refine J.sub ?_ ((((((((Sub.base _).upd e0).upd e1).upd e5).upd e6).upd e7).upd e8).upd e9)
              clear e0 e1 e5 e6 e7 e8 e9
              refine J_seq (fun σ w => vS (σ 1) fun x1A x1n x1c => vS (σ 6) fun x6A x6n x6c => vS (σ 7) fun x7A x7n x7c => vI .i64 (σ 8) fun x8 => vB (σ 9) fun x9 => law13_SlidePlans.p7 K x1A x1n x1c x6A x6n x6c x7A x7n x7c x8 x9 w) ?_ ?_
              ·
                refine J_seq (fun σ w => vS (σ 1) fun x1A x1n x1c => vS (σ 6) fun x6A x6n x6c => vS (σ 7) fun x7A x7n x7c => vI .i64 (σ 8) fun x8 => vB (σ 9) fun x9 => vB (σ 39) fun x39 => law13_SlidePlans.p6 K x1A x1n x1c x6A x6n x6c x7A x7n x7c x8 x9 x39 w) ?_ ?_
                ·
                  exact sh_sound _ _ _ _ (Eq.mp (by kernel_rfl) h)
                · intro σ w h
                  obtain ⟨x1A, x1n, x1c, e1, h⟩ := vS_elim h
                  obtain ⟨x6A, x6n, x6c, e6, h⟩ := vS_elim h
                  obtain ⟨x7A, x7n, x7c, e7, h⟩ := vS_elim h
                  obtain ⟨x8, e8, h⟩ := vI_elim h
                  obtain ⟨x9, e9, h⟩ := vB_elim h
                  obtain ⟨x39, e39, h⟩ := vB_elim h
                  refine J.sub ?_ (((((((Sub.base _).upd e1).upd e6).upd e7).upd e8).upd e9).upd e39)
                  clear e1 e6 e7 e8 e9 e39
                  exact sh_sound _ _ _ _ (Eq.mp (by kernel_rfl) h)
              · intro σ w h
                obtain ⟨x1A, x1n, x1c, e1, h⟩ := vS_elim h
                obtain ⟨x6A, x6n, x6c, e6, h⟩ := vS_elim h
                obtain ⟨x7A, x7n, x7c, e7, h⟩ := vS_elim h
                obtain ⟨x8, e8, h⟩ := vI_elim h
                obtain ⟨x9, e9, h⟩ := vB_elim h
                refine J.sub ?_ ((((((Sub.base _).upd e1).upd e6).upd e7).upd e8).upd e9)
                clear e1 e6 e7 e8 e9
                refine J_seq (fun σ w => vS (σ 1) fun x1A x1n x1c => vS (σ 6) fun x6A x6n x6c => vS (σ 7) fun x7A x7n x7c => vI .i64 (σ 8) fun x8 => law13_SlidePlans.p10 K x1A x1n x1c x6A x6n x6c x7A x7n x7c x8 w) ?_ ?_
                ·
                  refine J_seq (fun σ w => vS (σ 1) fun x1A x1n x1c => vS (σ 6) fun x6A x6n x6c => vS (σ 7) fun x7A x7n x7c => vI .i64 (σ 8) fun x8 => vB (σ 41) fun x41 => law13_SlidePlans.p8 K x1A x1n x1c x6A x6n x6c x7A x7n x7c x8 x41 w) ?_ ?_
                  ·
                    exact sh_sound _ _ _ _ (Eq.mp (by kernel_rfl) h)
                  · intro σ w h
                    obtain ⟨x1A, x1n, x1c, e1, h⟩ := vS_elim h
                    obtain ⟨x6A, x6n, x6c, e6, h⟩ := vS_elim h
                    obtain ⟨x7A, x7n, x7c, e7, h⟩ := vS_elim h
                    obtain ⟨x8, e8, h⟩ := vI_elim h
                    obtain ⟨x41, e41, h⟩ := vB_elim h
                    refine J.sub ?_ ((((((Sub.base _).upd e1).upd e6).upd e7).upd e8).upd e41)
                    clear e1 e6 e7 e8 e41
                    refine J_cond' h (by kernel_rfl) (fun h => ?_) (fun h => ?_)
                    ·
                      refine J_seq (fun σ w => vB (σ 4) fun x4 => law13_SlidePlans.p9 K x4 w) ?_ ?_
                      ·
                        exact sh_sound _ _ _ _ (Eq.mp (by kernel_rfl) h)
                      · intro σ w h
                        obtain ⟨x4, e4, h⟩ := vB_elim h
                        refine J.sub ?_ ((Sub.base _).upd e4)
                        clear e4
                        exact sh_sound _ _ _ _ (Eq.mp (by kernel_rfl) h)
                    ·
                      exact sh_sound _ _ _ _ (Eq.mp (by kernel_rfl) h)
                · intro σ w h
                  obtain ⟨x1A, x1n, x1c, e1, h⟩ := vS_elim h
                  obtain ⟨x6A, x6n, x6c, e6, h⟩ := vS_elim h
                  obtain ⟨x7A, x7n, x7c, e7, h⟩ := vS_elim h
                  obtain ⟨x8, e8, h⟩ := vI_elim h
                  refine J.sub ?_ (((((Sub.base _).upd e1).upd e6).upd e7).upd e8)
                  clear e1 e6 e7 e8
                  refine J_seq (fun σ w => vS (σ 6) fun x6A x6n x6c => vS (σ 7) fun x7A x7n x7c => vI .i64 (σ 8) fun x8 => vS (σ 10) fun x10A x10n x10c => vS (σ 11) fun x11A x11n x11c => law13_SlidePlans.p11 K x6A x6n x6c x7A x7n x7c x8 x10A x10n x10c x11A x11n x11c w) ?_ ?_
                  ·
                    exact sh_sound _ _ _ _ (Eq.mp (by kernel_rfl) h)
                  · intro σ w h
                    obtain ⟨x6A, x6n, x6c, e6, h⟩ := vS_elim h
                    obtain ⟨x7A, x7n, x7c, e7, h⟩ := vS_elim h
                    obtain ⟨x8, e8, h⟩ := vI_elim h
                    obtain ⟨x10A, x10n, x10c, e10, h⟩ := vS_elim h
                    obtain ⟨x11A, x11n, x11c, e11, h⟩ := vS_elim h
                    refine J.sub ?_ ((((((Sub.base _).upd e6).upd e7).upd e8).upd e10).upd e11)
                    clear e6 e7 e8 e10 e11
                    refine J_seq (fun σ w => vB (σ 4) fun x4 => law13_SlidePlans.p12 K x4 w) ?_ ?_
                    ·
                      exact sh_sound _ _ _ _ (Eq.mp (by kernel_rfl) h)
                    · intro σ w h
                      obtain ⟨x4, e4, h⟩ := vB_elim h
                      refine J.sub ?_ ((Sub.base _).upd e4)
                      clear e4
                      exact sh_sound _ _ _ _ (Eq.mp (by kernel_rfl) h)

/-! ### hayloft/hayloftlaw13.SlideKeeps: function 5 -/
abbrev law13_SlideKeeps.p14 (L0 : Option Addr → Nat → Nat → Option Addr → Nat → Nat → Option Addr → Nat → Nat → Option Addr → Nat → Nat → Option Addr → Nat → Nat → Int → Int → World → Prop) (K : Value → World → Prop) (x6A : Option Addr) (x6n : Nat) (x6c : Nat) (x8A : Option Addr) (x8n : Nat) (x8c : Nat) (x9A : Option Addr) (x9n : Nat) (x9c : Nat) (x10A : Option Addr) (x10n : Nat) (x10c : Nat) (x53A : Option Addr) (x53n : Nat) (x53c : Nat) (x54 : Int) (x55 : Int) (w : World) : Prop :=
  L0 x6A x6n x6c x8A x8n x8c x9A x9n x9c x10A x10n x10c x53A x53n x53c x54 (IntKind.wrap .i64 (x55 + (1 : Int))) w
abbrev law13_SlideKeeps.b1 (L1 : Option Addr → Nat → Nat → Option Addr → Nat → Nat → Option Addr → Nat → Nat → Option Addr → Nat → Nat → Int → Addr → Int → Option Addr → Nat → Nat → Int → Int → World → Prop) (L0 : Option Addr → Nat → Nat → Option Addr → Nat → Nat → Option Addr → Nat → Nat → Option Addr → Nat → Nat → Option Addr → Nat → Nat → Int → Int → World → Prop) (K : Value → World → Prop) (x6A : Option Addr) (x6n : Nat) (x6c : Nat) (x8A : Option Addr) (x8n : Nat) (x8c : Nat) (x9A : Option Addr) (x9n : Nat) (x9c : Nat) (x10A : Option Addr) (x10n : Nat) (x10c : Nat) (x11 : Int) (x12 : Addr) (x13 : Int) (x53A : Option Addr) (x53n : Nat) (x53c : Nat) (x54 : Int) (x55 : Int) (w : World) : Prop :=
  ∃ (n33 : Int), w.cell? (x12.add 1) = some (.int .i64 n33) ∧ condP (decide (x13 < n33)) (∃ (n34 : Int), w.cell? x12 = some (.int .i64 n34) ∧ (0 ≤ (IntKind.wrap .i64 (n34 + x13)) ∧ (IntKind.wrap .i64 (n34 + x13)) < ((x10n : Nat) : Int)) ∧ ∃ (a35 : Addr), x10A = some a35 ∧ canStore w (a35.add ((IntKind.wrap .i64 (n34 + x13)).toNat * 2)) ∧ wlet (w.setCell (a35.add ((IntKind.wrap .i64 (n34 + x13)).toNat * 2)) (.int .i64 (IntKind.wrap .i64 (x11 + (1 : Int))))) fun w36 => canStore w36 ((a35.add ((IntKind.wrap .i64 (n34 + x13)).toNat * 2)).add 1) ∧ wlet (w36.setCell ((a35.add ((IntKind.wrap .i64 (n34 + x13)).toNat * 2)).add 1) (.int .i64 x13)) fun w37 => L1 x6A x6n x6c x8A x8n x8c x9A x9n x9c x10A x10n x10c x11 x12 (IntKind.wrap .i64 (x13 + (1 : Int))) x53A x53n x53c x54 x55 w37) (law13_SlideKeeps.p14 L0 K x6A x6n x6c x8A x8n x8c x9A x9n x9c x10A x10n x10c x53A x53n x53c x54 x55 w)
def law13_SlideKeeps.l1 (L0 : Option Addr → Nat → Nat → Option Addr → Nat → Nat → Option Addr → Nat → Nat → Option Addr → Nat → Nat → Option Addr → Nat → Nat → Int → Int → World → Prop) (K : Value → World → Prop) (k : Nat) : Option Addr → Nat → Nat → Option Addr → Nat → Nat → Option Addr → Nat → Nat → Option Addr → Nat → Nat → Int → Addr → Int → Option Addr → Nat → Nat → Int → Int → World → Prop :=
  Nat.rec (motive := fun _ => Option Addr → Nat → Nat → Option Addr → Nat → Nat → Option Addr → Nat → Nat → Option Addr → Nat → Nat → Int → Addr → Int → Option Addr → Nat → Nat → Int → Int → World → Prop) (fun _ _ _ _ _ _ _ _ _ _ _ _ _ _ _ _ _ _ _ _ _ => False) (fun _ ih => law13_SlideKeeps.b1 ih L0 K) k
theorem law13_SlideKeeps.l1_succ (L0 : Option Addr → Nat → Nat → Option Addr → Nat → Nat → Option Addr → Nat → Nat → Option Addr → Nat → Nat → Option Addr → Nat → Nat → Int → Int → World → Prop) (K : Value → World → Prop) (k : Nat) (x6A : Option Addr) (x6n : Nat) (x6c : Nat) (x8A : Option Addr) (x8n : Nat) (x8c : Nat) (x9A : Option Addr) (x9n : Nat) (x9c : Nat) (x10A : Option Addr) (x10n : Nat) (x10c : Nat) (x11 : Int) (x12 : Addr) (x13 : Int) (x53A : Option Addr) (x53n : Nat) (x53c : Nat) (x54 : Int) (x55 : Int) (w : World) : law13_SlideKeeps.l1 L0 K (k + 1) x6A x6n x6c x8A x8n x8c x9A x9n x9c x10A x10n x10c x11 x12 x13 x53A x53n x53c x54 x55 w = law13_SlideKeeps.b1 (law13_SlideKeeps.l1 L0 K k) L0 K x6A x6n x6c x8A x8n x8c x9A x9n x9c x10A x10n x10c x11 x12 x13 x53A x53n x53c x54 x55 w := rfl
abbrev law13_SlideKeeps.p13 (L0 : Option Addr → Nat → Nat → Option Addr → Nat → Nat → Option Addr → Nat → Nat → Option Addr → Nat → Nat → Option Addr → Nat → Nat → Int → Int → World → Prop) (K : Value → World → Prop) (x6A : Option Addr) (x6n : Nat) (x6c : Nat) (x8A : Option Addr) (x8n : Nat) (x8c : Nat) (x9A : Option Addr) (x9n : Nat) (x9c : Nat) (x10A : Option Addr) (x10n : Nat) (x10c : Nat) (x11 : Int) (x12 : Addr) (x13 : Int) (x53A : Option Addr) (x53n : Nat) (x53c : Nat) (x54 : Int) (x55 : Int) (w : World) : Prop :=
  ∃ k, law13_SlideKeeps.l1 L0 K k x6A x6n x6c x8A x8n x8c x9A x9n x9c x10A x10n x10c x11 x12 x13 x53A x53n x53c x54 x55 w
abbrev law13_SlideKeeps.p12 (L0 : Option Addr → Nat → Nat → Option Addr → Nat → Nat → Option Addr → Nat → Nat → Option Addr → Nat → Nat → Option Addr → Nat → Nat → Int → Int → World → Prop) (K : Value → World → Prop) (x6A : Option Addr) (x6n : Nat) (x6c : Nat) (x8A : Option Addr) (x8n : Nat) (x8c : Nat) (x9A : Option Addr) (x9n : Nat) (x9c : Nat) (x10A : Option Addr) (x10n : Nat) (x10c : Nat) (x11 : Int) (x12 : Addr) (x53A : Option Addr) (x53n : Nat) (x53c : Nat) (x54 : Int) (x55 : Int) (w : World) : Prop :=
  law13_SlideKeeps.p13 L0 K x6A x6n x6c x8A x8n x8c x9A x9n x9c x10A x10n x10c x11 x12 0 x53A x53n x53c x54 x55 w
abbrev law13_SlideKeeps.p11 (L0 : Option Addr → Nat → Nat → Option Addr → Nat → Nat → Option Addr → Nat → Nat → Option Addr → Nat → Nat → Option Addr → Nat → Nat → Int → Int → World → Prop) (K : Value → World → Prop) (x6A : Option Addr) (x6n : Nat) (x6c : Nat) (x8A : Option Addr) (x8n : Nat) (x8c : Nat) (x9A : Option Addr) (x9n : Nat) (x9c : Nat) (x10A : Option Addr) (x10n : Nat) (x10c : Nat) (x53A : Option Addr) (x53n : Nat) (x53c : Nat) (x54 : Int) (x55 : Int) (w : World) : Prop :=
  (0 ≤ x55 ∧ x55 < ((x53n : Nat) : Int)) ∧ ∃ (a27 : Addr), x53A = some a27 ∧ ∃ (n28 : Int), w.cell? (a27.add (x55.toNat * 2)) = some (.int .i64 n28) ∧ ∃ (n29 : Int), w.cell? ((a27.add (x55.toNat * 2)).add 1) = some (.int .i64 n29) ∧ wlet (w.alloc (.cells #[.int .i64 0, .int .i64 0] 42)) fun w30 => canStore w30 (⟨w.heap.size, 0, none⟩) ∧ wlet (w30.setCell (⟨w.heap.size, 0, none⟩) (.int .i64 n28)) fun w31 => canStore w31 (⟨w.heap.size, 1, none⟩) ∧ wlet (w31.setCell (⟨w.heap.size, 1, none⟩) (.int .i64 n29)) fun w32 => law13_SlideKeeps.p12 L0 K x6A x6n x6c x8A x8n x8c x9A x9n x9c x10A x10n x10c x55 (⟨w.heap.size, 0, none⟩) x53A x53n x53c x54 x55 w32
abbrev law13_SlideKeeps.p22 (L2 : Option Addr → Nat → Nat → Option Addr → Nat → Nat → Option Addr → Nat → Nat → Option Addr → Nat → Nat → Option Addr → Nat → Nat → Int → Int → World → Prop) (K : Value → World → Prop) (x6A : Option Addr) (x6n : Nat) (x6c : Nat) (x8A : Option Addr) (x8n : Nat) (x8c : Nat) (x9A : Option Addr) (x9n : Nat) (x9c : Nat) (x10A : Option Addr) (x10n : Nat) (x10c : Nat) (x77A : Option Addr) (x77n : Nat) (x77c : Nat) (x78 : Int) (x79 : Int) (w : World) : Prop :=
  L2 x6A x6n x6c x8A x8n x8c x9A x9n x9c x10A x10n x10c x77A x77n x77c x78 (IntKind.wrap .i64 (x79 + (1 : Int))) w
abbrev law13_SlideKeeps.p21 (L2 : Option Addr → Nat → Nat → Option Addr → Nat → Nat → Option Addr → Nat → Nat → Option Addr → Nat → Nat → Option Addr → Nat → Nat → Int → Int → World → Prop) (K : Value → World → Prop) (x6A : Option Addr) (x6n : Nat) (x6c : Nat) (x8A : Option Addr) (x8n : Nat) (x8c : Nat) (x9A : Option Addr) (x9n : Nat) (x9c : Nat) (x10A : Option Addr) (x10n : Nat) (x10c : Nat) (x15 : Addr) (x77A : Option Addr) (x77n : Nat) (x77c : Nat) (x78 : Int) (x79 : Int) (w : World) : Prop :=
  ∃ (S47 : Array Obj → Prop), S47 w.heap ∧ ∃ (n48 : Int), (∀ w' : World, S47 w'.heap → w'.cell? (x15.add 1) = some (.int .i64 n48)) ∧ ∃ (n49 : Int), (∀ w' : World, S47 w'.heap → w'.cell? (x15.add 1) = some (.int .i64 n49)) ∧ ∃ (n50 : Int), (∀ w' : World, S47 w'.heap → w'.cell? (x15.add 2) = some (.int .i64 n50)) ∧ (0 ≤ (IntKind.wrap .i64 (n49 + n50)) ∧ (IntKind.wrap .i64 (n49 + n50)) ≤ ((x10c : Nat) : Int)) ∧ (0 ≤ n48 ∧ n48 ≤ (((IntKind.wrap .i64 (n49 + n50)).toNat : Nat) : Int)) ∧ ∃ (n51 : Int), (∀ w' : World, S47 w'.heap → w'.cell? x15 = some (.int .i64 n51)) ∧ ∃ (n52 : Int), (∀ w' : World, S47 w'.heap → w'.cell? x15 = some (.int .i64 n52)) ∧ ∃ (n53 : Int), (∀ w' : World, S47 w'.heap → w'.cell? (x15.add 2) = some (.int .i64 n53)) ∧ (0 ≤ (IntKind.wrap .i64 (n52 + n53)) ∧ (IntKind.wrap .i64 (n52 + n53)) ≤ ((x10c : Nat) : Int)) ∧ (0 ≤ n51 ∧ n51 ≤ (((IntKind.wrap .i64 (n52 + n53)).toNat : Nat) : Int)) ∧ wlet (w.alloc (.cells #[] 43)) fun w54 => S47 w54.heap ∧ SemJ Tryd.prog (Builtin.append_ #[40, 40] 40 #[.slice (some ⟨w.heap.size, 0, none⟩) 0 0, .slice (slA x10A n51.toNat x10c 2) (((IntKind.wrap .i64 (n52 + n53)).toNat) - n51.toNat) (x10c - n51.toNat)]) (fun v55 w56 => ∃ (A57 : Option Addr) (m58 : Nat) (c59 : Nat), v55 = .slice A57 m58 c59 ∧ S47 w56.heap ∧ SemJ Tryd.prog (Builtin.copy_ #[40, 40] 3 #[.slice (slA x10A n48.toNat x10c 2) (((IntKind.wrap .i64 (n49 + n50)).toNat) - n48.toNat) (x10c - n48.toNat), .slice A57 m58 c59]) (fun v60 w61 => ∃ (n62 : Int), v60 = .int .i64 n62 ∧ S47 w61.heap ∧ law13_SlideKeeps.p22 L2 K x6A x6n x6c x8A x8n x8c x9A x9n x9c x10A x10n x10c x77A x77n x77c x78 x79 w61) w56) w54
abbrev law13_SlideKeeps.p20 (L2 : Option Addr → Nat → Nat → Option Addr → Nat → Nat → Option Addr → Nat → Nat → Option Addr → Nat → Nat → Option Addr → Nat → Nat → Int → Int → World → Prop) (K : Value → World → Prop) (x6A : Option Addr) (x6n : Nat) (x6c : Nat) (x8A : Option Addr) (x8n : Nat) (x8c : Nat) (x9A : Option Addr) (x9n : Nat) (x9c : Nat) (x10A : Option Addr) (x10n : Nat) (x10c : Nat) (x15 : Addr) (x77A : Option Addr) (x77n : Nat) (x77c : Nat) (x78 : Int) (x79 : Int) (x115 : Bool) (w : World) : Prop :=
  condP x115 (K (.bool false) w) (law13_SlideKeeps.p21 L2 K x6A x6n x6c x8A x8n x8c x9A x9n x9c x10A x10n x10c x15 x77A x77n x77c x78 x79 w)
abbrev law13_SlideKeeps.p19 (L2 : Option Addr → Nat → Nat → Option Addr → Nat → Nat → Option Addr → Nat → Nat → Option Addr → Nat → Nat → Option Addr → Nat → Nat → Int → Int → World → Prop) (K : Value → World → Prop) (x6A : Option Addr) (x6n : Nat) (x6c : Nat) (x8A : Option Addr) (x8n : Nat) (x8c : Nat) (x9A : Option Addr) (x9n : Nat) (x9c : Nat) (x10A : Option Addr) (x10n : Nat) (x10c : Nat) (x15 : Addr) (x77A : Option Addr) (x77n : Nat) (x77c : Nat) (x78 : Int) (x79 : Int) (w : World) : Prop :=
  ∃ (n46 : Int), w.cell? (x15.add 2) = some (.int .i64 n46) ∧ condP (decide (n46 < (1 : Int))) (law13_SlideKeeps.p20 L2 K x6A x6n x6c x8A x8n x8c x9A x9n x9c x10A x10n x10c x15 x77A x77n x77c x78 x79 true w) (∃ (n63 : Int), w.cell? x15 = some (.int .i64 n63) ∧ condP (decide (n63 < (0 : Int))) (law13_SlideKeeps.p20 L2 K x6A x6n x6c x8A x8n x8c x9A x9n x9c x10A x10n x10c x15 x77A x77n x77c x78 x79 true w) (∃ (n64 : Int), w.cell? (x15.add 1) = some (.int .i64 n64) ∧ condP (decide (n64 < (0 : Int))) (law13_SlideKeeps.p20 L2 K x6A x6n x6c x8A x8n x8c x9A x9n x9c x10A x10n x10c x15 x77A x77n x77c x78 x79 true w) (∃ (n65 : Int), w.cell? x15 = some (.int .i64 n65) ∧ ∃ (n66 : Int), w.cell? (x15.add 2) = some (.int .i64 n66) ∧ condP (decide ((IntKind.wrap .i64 (((x10n : Nat) : Int) - n66)) < n65)) (law13_SlideKeeps.p20 L2 K x6A x6n x6c x8A x8n x8c x9A x9n x9c x10A x10n x10c x15 x77A x77n x77c x78 x79 true w) (∃ (n67 : Int), w.cell? (x15.add 1) = some (.int .i64 n67) ∧ ∃ (n68 : Int), w.cell? (x15.add 2) = some (.int .i64 n68) ∧ law13_SlideKeeps.p20 L2 K x6A x6n x6c x8A x8n x8c x9A x9n x9c x10A x10n x10c x15 x77A x77n x77c x78 x79 (decide ((IntKind.wrap .i64 (((x10n : Nat) : Int) - n68)) < n67)) w))))
abbrev law13_SlideKeeps.p18 (L2 : Option Addr → Nat → Nat → Option Addr → Nat → Nat → Option Addr → Nat → Nat → Option Addr → Nat → Nat → Option Addr → Nat → Nat → Int → Int → World → Prop) (K : Value → World → Prop) (x6A : Option Addr) (x6n : Nat) (x6c : Nat) (x8A : Option Addr) (x8n : Nat) (x8c : Nat) (x9A : Option Addr) (x9n : Nat) (x9c : Nat) (x10A : Option Addr) (x10n : Nat) (x10c : Nat) (x77A : Option Addr) (x77n : Nat) (x77c : Nat) (x78 : Int) (x79 : Int) (w : World) : Prop :=
  (0 ≤ x79 ∧ x79 < ((x77n : Nat) : Int)) ∧ ∃ (a38 : Addr), x77A = some a38 ∧ ∃ (n39 : Int), w.cell? (a38.add (x79.toNat * 3)) = some (.int .i64 n39) ∧ ∃ (n40 : Int), w.cell? ((a38.add (x79.toNat * 3)).add 1) = some (.int .i64 n40) ∧ ∃ (n41 : Int), w.cell? ((a38.add (x79.toNat * 3)).add 2) = some (.int .i64 n41) ∧ wlet (w.alloc (.cells #[.int .i64 0, .int .i64 0, .int .i64 0] 25)) fun w42 => canStore w42 (⟨w.heap.size, 0, none⟩) ∧ wlet (w42.setCell (⟨w.heap.size, 0, none⟩) (.int .i64 n39)) fun w43 => canStore w43 (⟨w.heap.size, 1, none⟩) ∧ wlet (w43.setCell (⟨w.heap.size, 1, none⟩) (.int .i64 n40)) fun w44 => canStore w44 (⟨w.heap.size, 2, none⟩) ∧ wlet (w44.setCell (⟨w.heap.size, 2, none⟩) (.int .i64 n41)) fun w45 => law13_SlideKeeps.p19 L2 K x6A x6n x6c x8A x8n x8c x9A x9n x9c x10A x10n x10c (⟨w.heap.size, 0, none⟩) x77A x77n x77c x78 x79 w45
abbrev law13_SlideKeeps.p31 (L3 : Option Addr → Nat → Nat → Option Addr → Nat → Nat → Option Addr → Nat → Nat → Option Addr → Nat → Nat → Int → Int → World → Prop) (K : Value → World → Prop) (x6A : Option Addr) (x6n : Nat) (x6c : Nat) (x8A : Option Addr) (x8n : Nat) (x8c : Nat) (x10A : Option Addr) (x10n : Nat) (x10c : Nat) (x138A : Option Addr) (x138n : Nat) (x138c : Nat) (x139 : Int) (x140 : Int) (w : World) : Prop :=
  L3 x6A x6n x6c x8A x8n x8c x10A x10n x10c x138A x138n x138c x139 (IntKind.wrap .i64 (x140 + (1 : Int))) w
abbrev law13_SlideKeeps.b4 (L4 : Option Addr → Nat → Nat → Option Addr → Nat → Nat → Option Addr → Nat → Nat → Int → Addr → Int → Option Addr → Nat → Nat → Int → Int → World → Prop) (L3 : Option Addr → Nat → Nat → Option Addr → Nat → Nat → Option Addr → Nat → Nat → Option Addr → Nat → Nat → Int → Int → World → Prop) (K : Value → World → Prop) (x6A : Option Addr) (x6n : Nat) (x6c : Nat) (x8A : Option Addr) (x8n : Nat) (x8c : Nat) (x10A : Option Addr) (x10n : Nat) (x10c : Nat) (x16 : Int) (x17 : Addr) (x18 : Int) (x138A : Option Addr) (x138n : Nat) (x138c : Nat) (x139 : Int) (x140 : Int) (w : World) : Prop :=
  ∃ (n79 : Int), w.cell? (x17.add 1) = some (.int .i64 n79) ∧ condP (decide (x18 < n79)) (∃ (n80 : Int), w.cell? x17 = some (.int .i64 n80) ∧ (0 ≤ (IntKind.wrap .i64 (n80 + x18)) ∧ (IntKind.wrap .i64 (n80 + x18)) < ((x10n : Nat) : Int)) ∧ ∃ (a81 : Addr), x10A = some a81 ∧ ∃ (n82 : Int), w.cell? (a81.add ((IntKind.wrap .i64 (n80 + x18)).toNat * 2)) = some (.int .i64 n82) ∧ ∃ (n83 : Int), w.cell? ((a81.add ((IntKind.wrap .i64 (n80 + x18)).toNat * 2)).add 1) = some (.int .i64 n83) ∧ ∃ (b84 : Bool), aggEq Tryd.prog .neq 43 (.agg #[.int .i64 n82, .int .i64 n83]) (.agg #[.int .i64 (IntKind.wrap .i64 (x16 + (1 : Int))), .int .i64 x18]) (.bool b84) ∧ condP b84 (K (.bool false) w) (L4 x6A x6n x6c x8A x8n x8c x10A x10n x10c x16 x17 (IntKind.wrap .i64 (x18 + (1 : Int))) x138A x138n x138c x139 x140 w)) (law13_SlideKeeps.p31 L3 K x6A x6n x6c x8A x8n x8c x10A x10n x10c x138A x138n x138c x139 x140 w)
def law13_SlideKeeps.l4 (L3 : Option Addr → Nat → Nat → Option Addr → Nat → Nat → Option Addr → Nat → Nat → Option Addr → Nat → Nat → Int → Int → World → Prop) (K : Value → World → Prop) (k : Nat) : Option Addr → Nat → Nat → Option Addr → Nat → Nat → Option Addr → Nat → Nat → Int → Addr → Int → Option Addr → Nat → Nat → Int → Int → World → Prop :=
  Nat.rec (motive := fun _ => Option Addr → Nat → Nat → Option Addr → Nat → Nat → Option Addr → Nat → Nat → Int → Addr → Int → Option Addr → Nat → Nat → Int → Int → World → Prop) (fun _ _ _ _ _ _ _ _ _ _ _ _ _ _ _ _ _ _ => False) (fun _ ih => law13_SlideKeeps.b4 ih L3 K) k
theorem law13_SlideKeeps.l4_succ (L3 : Option Addr → Nat → Nat → Option Addr → Nat → Nat → Option Addr → Nat → Nat → Option Addr → Nat → Nat → Int → Int → World → Prop) (K : Value → World → Prop) (k : Nat) (x6A : Option Addr) (x6n : Nat) (x6c : Nat) (x8A : Option Addr) (x8n : Nat) (x8c : Nat) (x10A : Option Addr) (x10n : Nat) (x10c : Nat) (x16 : Int) (x17 : Addr) (x18 : Int) (x138A : Option Addr) (x138n : Nat) (x138c : Nat) (x139 : Int) (x140 : Int) (w : World) : law13_SlideKeeps.l4 L3 K (k + 1) x6A x6n x6c x8A x8n x8c x10A x10n x10c x16 x17 x18 x138A x138n x138c x139 x140 w = law13_SlideKeeps.b4 (law13_SlideKeeps.l4 L3 K k) L3 K x6A x6n x6c x8A x8n x8c x10A x10n x10c x16 x17 x18 x138A x138n x138c x139 x140 w := rfl
abbrev law13_SlideKeeps.p30 (L3 : Option Addr → Nat → Nat → Option Addr → Nat → Nat → Option Addr → Nat → Nat → Option Addr → Nat → Nat → Int → Int → World → Prop) (K : Value → World → Prop) (x6A : Option Addr) (x6n : Nat) (x6c : Nat) (x8A : Option Addr) (x8n : Nat) (x8c : Nat) (x10A : Option Addr) (x10n : Nat) (x10c : Nat) (x16 : Int) (x17 : Addr) (x18 : Int) (x138A : Option Addr) (x138n : Nat) (x138c : Nat) (x139 : Int) (x140 : Int) (w : World) : Prop :=
  ∃ k, law13_SlideKeeps.l4 L3 K k x6A x6n x6c x8A x8n x8c x10A x10n x10c x16 x17 x18 x138A x138n x138c x139 x140 w
abbrev law13_SlideKeeps.p29 (L3 : Option Addr → Nat → Nat → Option Addr → Nat → Nat → Option Addr → Nat → Nat → Option Addr → Nat → Nat → Int → Int → World → Prop) (K : Value → World → Prop) (x6A : Option Addr) (x6n : Nat) (x6c : Nat) (x8A : Option Addr) (x8n : Nat) (x8c : Nat) (x10A : Option Addr) (x10n : Nat) (x10c : Nat) (x16 : Int) (x17 : Addr) (x138A : Option Addr) (x138n : Nat) (x138c : Nat) (x139 : Int) (x140 : Int) (w : World) : Prop :=
  law13_SlideKeeps.p30 L3 K x6A x6n x6c x8A x8n x8c x10A x10n x10c x16 x17 0 x138A x138n x138c x139 x140 w
abbrev law13_SlideKeeps.p28 (L3 : Option Addr → Nat → Nat → Option Addr → Nat → Nat → Option Addr → Nat → Nat → Option Addr → Nat → Nat → Int → Int → World → Prop) (K : Value → World → Prop) (x6A : Option Addr) (x6n : Nat) (x6c : Nat) (x8A : Option Addr) (x8n : Nat) (x8c : Nat) (x10A : Option Addr) (x10n : Nat) (x10c : Nat) (x16 : Int) (x17 : Addr) (x138A : Option Addr) (x138n : Nat) (x138c : Nat) (x139 : Int) (x140 : Int) (x179 : Bool) (w : World) : Prop :=
  condP x179 (K (.bool false) w) (law13_SlideKeeps.p29 L3 K x6A x6n x6c x8A x8n x8c x10A x10n x10c x16 x17 x138A x138n x138c x139 x140 w)
abbrev law13_SlideKeeps.p27 (L3 : Option Addr → Nat → Nat → Option Addr → Nat → Nat → Option Addr → Nat → Nat → Option Addr → Nat → Nat → Int → Int → World → Prop) (K : Value → World → Prop) (x6A : Option Addr) (x6n : Nat) (x6c : Nat) (x8A : Option Addr) (x8n : Nat) (x8c : Nat) (x10A : Option Addr) (x10n : Nat) (x10c : Nat) (x16 : Int) (x17 : Addr) (x138A : Option Addr) (x138n : Nat) (x138c : Nat) (x139 : Int) (x140 : Int) (w : World) : Prop :=
  ∃ (S75 : Array Obj → Prop), S75 w.heap ∧ (0 ≤ x16 ∧ x16 < ((x8n : Nat) : Int)) ∧ ∃ (a76 : Addr), x8A = some a76 ∧ ∃ (n77 : Int), (∀ w' : World, S75 w'.heap → w'.cell? (x17.add 1) = some (.int .i64 n77)) ∧ ∃ (n78 : Int), (∀ w' : World, S75 w'.heap → w'.cell? ((a76.add (x16.toNat * 2)).add 1) = some (.int .i64 n78)) ∧ condP (n77 != n78) (law13_SlideKeeps.p28 L3 K x6A x6n x6c x8A x8n x8c x10A x10n x10c x16 x17 x138A x138n x138c x139 x140 true w) ((0 ≤ x16 ∧ x16 < ((x8n : Nat) : Int)) ∧ ∃ (a85 : Addr), x8A = some a85 ∧ ∃ (n86 : Int), (∀ w' : World, S75 w'.heap → w'.cell? (a85.add (x16.toNat * 2)) = some (.int .i64 n86)) ∧ ∃ (n87 : Int), (∀ w' : World, S75 w'.heap → w'.cell? x17 = some (.int .i64 n87)) ∧ CallsE Tryd.prog 9 #[.int .i64 n86, .slice x6A x6n x6c] w (fun v88 w89 => ∃ (n90 : Int), v88 = .int .i64 n90 ∧ S75 w89.heap ∧ condP (n90 != n87) (law13_SlideKeeps.p28 L3 K x6A x6n x6c x8A x8n x8c x10A x10n x10c x16 x17 x138A x138n x138c x139 x140 true w89) (∃ (n91 : Int), (∀ w' : World, S75 w'.heap → w'.cell? x17 = some (.int .i64 n91)) ∧ condP (decide (n91 < (0 : Int))) (law13_SlideKeeps.p28 L3 K x6A x6n x6c x8A x8n x8c x10A x10n x10c x16 x17 x138A x138n x138c x139 x140 true w89) (∃ (n92 : Int), (∀ w' : World, S75 w'.heap → w'.cell? x17 = some (.int .i64 n92)) ∧ ∃ (n93 : Int), (∀ w' : World, S75 w'.heap → w'.cell? (x17.add 1) = some (.int .i64 n93)) ∧ law13_SlideKeeps.p28 L3 K x6A x6n x6c x8A x8n x8c x10A x10n x10c x16 x17 x138A x138n x138c x139 x140 (decide ((IntKind.wrap .i64 (((x10n : Nat) : Int) - n93)) < n92)) w89))))
abbrev law13_SlideKeeps.p26 (L3 : Option Addr → Nat → Nat → Option Addr → Nat → Nat → Option Addr → Nat → Nat → Option Addr → Nat → Nat → Int → Int → World → Prop) (K : Value → World → Prop) (x6A : Option Addr) (x6n : Nat) (x6c : Nat) (x8A : Option Addr) (x8n : Nat) (x8c : Nat) (x10A : Option Addr) (x10n : Nat) (x10c : Nat) (x138A : Option Addr) (x138n : Nat) (x138c : Nat) (x139 : Int) (x140 : Int) (w : World) : Prop :=
  (0 ≤ x140 ∧ x140 < ((x138n : Nat) : Int)) ∧ ∃ (a69 : Addr), x138A = some a69 ∧ ∃ (n70 : Int), w.cell? (a69.add (x140.toNat * 2)) = some (.int .i64 n70) ∧ ∃ (n71 : Int), w.cell? ((a69.add (x140.toNat * 2)).add 1) = some (.int .i64 n71) ∧ wlet (w.alloc (.cells #[.int .i64 0, .int .i64 0] 42)) fun w72 => canStore w72 (⟨w.heap.size, 0, none⟩) ∧ wlet (w72.setCell (⟨w.heap.size, 0, none⟩) (.int .i64 n70)) fun w73 => canStore w73 (⟨w.heap.size, 1, none⟩) ∧ wlet (w73.setCell (⟨w.heap.size, 1, none⟩) (.int .i64 n71)) fun w74 => law13_SlideKeeps.p27 L3 K x6A x6n x6c x8A x8n x8c x10A x10n x10c x140 (⟨w.heap.size, 0, none⟩) x138A x138n x138c x139 x140 w74
abbrev law13_SlideKeeps.p32 (K : Value → World → Prop) (w : World) : Prop :=
  K (.bool true) w
abbrev law13_SlideKeeps.p25 (L3 : Option Addr → Nat → Nat → Option Addr → Nat → Nat → Option Addr → Nat → Nat → Option Addr → Nat → Nat → Int → Int → World → Prop) (K : Value → World → Prop) (x6A : Option Addr) (x6n : Nat) (x6c : Nat) (x8A : Option Addr) (x8n : Nat) (x8c : Nat) (x10A : Option Addr) (x10n : Nat) (x10c : Nat) (x138A : Option Addr) (x138n : Nat) (x138c : Nat) (x139 : Int) (x140 : Int) (x141 : Bool) (w : World) : Prop :=
  condP x141 (law13_SlideKeeps.p26 L3 K x6A x6n x6c x8A x8n x8c x10A x10n x10c x138A x138n x138c x139 x140 w) (law13_SlideKeeps.p32 K w)
abbrev law13_SlideKeeps.b3 (L3 : Option Addr → Nat → Nat → Option Addr → Nat → Nat → Option Addr → Nat → Nat → Option Addr → Nat → Nat → Int → Int → World → Prop) (K : Value → World → Prop) (x6A : Option Addr) (x6n : Nat) (x6c : Nat) (x8A : Option Addr) (x8n : Nat) (x8c : Nat) (x10A : Option Addr) (x10n : Nat) (x10c : Nat) (x138A : Option Addr) (x138n : Nat) (x138c : Nat) (x139 : Int) (x140 : Int) (w : World) : Prop :=
  law13_SlideKeeps.p25 L3 K x6A x6n x6c x8A x8n x8c x10A x10n x10c x138A x138n x138c x139 x140 (decide (x140 < x139)) w
def law13_SlideKeeps.l3 (K : Value → World → Prop) (k : Nat) : Option Addr → Nat → Nat → Option Addr → Nat → Nat → Option Addr → Nat → Nat → Option Addr → Nat → Nat → Int → Int → World → Prop :=
  Nat.rec (motive := fun _ => Option Addr → Nat → Nat → Option Addr → Nat → Nat → Option Addr → Nat → Nat → Option Addr → Nat → Nat → Int → Int → World → Prop) (fun _ _ _ _ _ _ _ _ _ _ _ _ _ _ _ => False) (fun _ ih => law13_SlideKeeps.b3 ih K) k
theorem law13_SlideKeeps.l3_succ (K : Value → World → Prop) (k : Nat) (x6A : Option Addr) (x6n : Nat) (x6c : Nat) (x8A : Option Addr) (x8n : Nat) (x8c : Nat) (x10A : Option Addr) (x10n : Nat) (x10c : Nat) (x138A : Option Addr) (x138n : Nat) (x138c : Nat) (x139 : Int) (x140 : Int) (w : World) : law13_SlideKeeps.l3 K (k + 1) x6A x6n x6c x8A x8n x8c x10A x10n x10c x138A x138n x138c x139 x140 w = law13_SlideKeeps.b3 (law13_SlideKeeps.l3 K k) K x6A x6n x6c x8A x8n x8c x10A x10n x10c x138A x138n x138c x139 x140 w := rfl
abbrev law13_SlideKeeps.p24 (K : Value → World → Prop) (x6A : Option Addr) (x6n : Nat) (x6c : Nat) (x8A : Option Addr) (x8n : Nat) (x8c : Nat) (x10A : Option Addr) (x10n : Nat) (x10c : Nat) (x138A : Option Addr) (x138n : Nat) (x138c : Nat) (x139 : Int) (x140 : Int) (w : World) : Prop :=
  ∃ k, law13_SlideKeeps.l3 K k x6A x6n x6c x8A x8n x8c x10A x10n x10c x138A x138n x138c x139 x140 w
abbrev law13_SlideKeeps.p23 (K : Value → World → Prop) (x6A : Option Addr) (x6n : Nat) (x6c : Nat) (x8A : Option Addr) (x8n : Nat) (x8c : Nat) (x9A : Option Addr) (x9n : Nat) (x9c : Nat) (x10A : Option Addr) (x10n : Nat) (x10c : Nat) (w : World) : Prop :=
  law13_SlideKeeps.p24 K x6A x6n x6c x8A x8n x8c x10A x10n x10c x9A x9n x9c ((x9n : Nat) : Int) 0 w
abbrev law13_SlideKeeps.p17 (L2 : Option Addr → Nat → Nat → Option Addr → Nat → Nat → Option Addr → Nat → Nat → Option Addr → Nat → Nat → Option Addr → Nat → Nat → Int → Int → World → Prop) (K : Value → World → Prop) (x6A : Option Addr) (x6n : Nat) (x6c : Nat) (x8A : Option Addr) (x8n : Nat) (x8c : Nat) (x9A : Option Addr) (x9n : Nat) (x9c : Nat) (x10A : Option Addr) (x10n : Nat) (x10c : Nat) (x77A : Option Addr) (x77n : Nat) (x77c : Nat) (x78 : Int) (x79 : Int) (x80 : Bool) (w : World) : Prop :=
  condP x80 (law13_SlideKeeps.p18 L2 K x6A x6n x6c x8A x8n x8c x9A x9n x9c x10A x10n x10c x77A x77n x77c x78 x79 w) (law13_SlideKeeps.p23 K x6A x6n x6c x8A x8n x8c x9A x9n x9c x10A x10n x10c w)
abbrev law13_SlideKeeps.b2 (L2 : Option Addr → Nat → Nat → Option Addr → Nat → Nat → Option Addr → Nat → Nat → Option Addr → Nat → Nat → Option Addr → Nat → Nat → Int → Int → World → Prop) (K : Value → World → Prop) (x6A : Option Addr) (x6n : Nat) (x6c : Nat) (x8A : Option Addr) (x8n : Nat) (x8c : Nat) (x9A : Option Addr) (x9n : Nat) (x9c : Nat) (x10A : Option Addr) (x10n : Nat) (x10c : Nat) (x77A : Option Addr) (x77n : Nat) (x77c : Nat) (x78 : Int) (x79 : Int) (w : World) : Prop :=
  law13_SlideKeeps.p17 L2 K x6A x6n x6c x8A x8n x8c x9A x9n x9c x10A x10n x10c x77A x77n x77c x78 x79 (decide (x79 < x78)) w
def law13_SlideKeeps.l2 (K : Value → World → Prop) (k : Nat) : Option Addr → Nat → Nat → Option Addr → Nat → Nat → Option Addr → Nat → Nat → Option Addr → Nat → Nat → Option Addr → Nat → Nat → Int → Int → World → Prop :=
  Nat.rec (motive := fun _ => Option Addr → Nat → Nat → Option Addr → Nat → Nat → Option Addr → Nat → Nat → Option Addr → Nat → Nat → Option Addr → Nat → Nat → Int → Int → World → Prop) (fun _ _ _ _ _ _ _ _ _ _ _ _ _ _ _ _ _ _ => False) (fun _ ih => law13_SlideKeeps.b2 ih K) k
theorem law13_SlideKeeps.l2_succ (K : Value → World → Prop) (k : Nat) (x6A : Option Addr) (x6n : Nat) (x6c : Nat) (x8A : Option Addr) (x8n : Nat) (x8c : Nat) (x9A : Option Addr) (x9n : Nat) (x9c : Nat) (x10A : Option Addr) (x10n : Nat) (x10c : Nat) (x77A : Option Addr) (x77n : Nat) (x77c : Nat) (x78 : Int) (x79 : Int) (w : World) : law13_SlideKeeps.l2 K (k + 1) x6A x6n x6c x8A x8n x8c x9A x9n x9c x10A x10n x10c x77A x77n x77c x78 x79 w = law13_SlideKeeps.b2 (law13_SlideKeeps.l2 K k) K x6A x6n x6c x8A x8n x8c x9A x9n x9c x10A x10n x10c x77A x77n x77c x78 x79 w := rfl
abbrev law13_SlideKeeps.p16 (K : Value → World → Prop) (x6A : Option Addr) (x6n : Nat) (x6c : Nat) (x8A : Option Addr) (x8n : Nat) (x8c : Nat) (x9A : Option Addr) (x9n : Nat) (x9c : Nat) (x10A : Option Addr) (x10n : Nat) (x10c : Nat) (x77A : Option Addr) (x77n : Nat) (x77c : Nat) (x78 : Int) (x79 : Int) (w : World) : Prop :=
  ∃ k, law13_SlideKeeps.l2 K k x6A x6n x6c x8A x8n x8c x9A x9n x9c x10A x10n x10c x77A x77n x77c x78 x79 w
abbrev law13_SlideKeeps.p15 (K : Value → World → Prop) (x6A : Option Addr) (x6n : Nat) (x6c : Nat) (x8A : Option Addr) (x8n : Nat) (x8c : Nat) (x9A : Option Addr) (x9n : Nat) (x9c : Nat) (x10A : Option Addr) (x10n : Nat) (x10c : Nat) (w : World) : Prop :=
  law13_SlideKeeps.p16 K x6A x6n x6c x8A x8n x8c x9A x9n x9c x10A x10n x10c x6A x6n x6c ((x6n : Nat) : Int) 0 w
abbrev law13_SlideKeeps.p10 (L0 : Option Addr → Nat → Nat → Option Addr → Nat → Nat → Option Addr → Nat → Nat → Option Addr → Nat → Nat → Option Addr → Nat → Nat → Int → Int → World → Prop) (K : Value → World → Prop) (x6A : Option Addr) (x6n : Nat) (x6c : Nat) (x8A : Option Addr) (x8n : Nat) (x8c : Nat) (x9A : Option Addr) (x9n : Nat) (x9c : Nat) (x10A : Option Addr) (x10n : Nat) (x10c : Nat) (x53A : Option Addr) (x53n : Nat) (x53c : Nat) (x54 : Int) (x55 : Int) (x56 : Bool) (w : World) : Prop :=
  condP x56 (law13_SlideKeeps.p11 L0 K x6A x6n x6c x8A x8n x8c x9A x9n x9c x10A x10n x10c x53A x53n x53c x54 x55 w) (law13_SlideKeeps.p15 K x6A x6n x6c x8A x8n x8c x9A x9n x9c x10A x10n x10c w)
abbrev law13_SlideKeeps.b0 (L0 : Option Addr → Nat → Nat → Option Addr → Nat → Nat → Option Addr → Nat → Nat → Option Addr → Nat → Nat → Option Addr → Nat → Nat → Int → Int → World → Prop) (K : Value → World → Prop) (x6A : Option Addr) (x6n : Nat) (x6c : Nat) (x8A : Option Addr) (x8n : Nat) (x8c : Nat) (x9A : Option Addr) (x9n : Nat) (x9c : Nat) (x10A : Option Addr) (x10n : Nat) (x10c : Nat) (x53A : Option Addr) (x53n : Nat) (x53c : Nat) (x54 : Int) (x55 : Int) (w : World) : Prop :=
  law13_SlideKeeps.p10 L0 K x6A x6n x6c x8A x8n x8c x9A x9n x9c x10A x10n x10c x53A x53n x53c x54 x55 (decide (x55 < x54)) w
def law13_SlideKeeps.l0 (K : Value → World → Prop) (k : Nat) : Option Addr → Nat → Nat → Option Addr → Nat → Nat → Option Addr → Nat → Nat → Option Addr → Nat → Nat → Option Addr → Nat → Nat → Int → Int → World → Prop :=
  Nat.rec (motive := fun _ => Option Addr → Nat → Nat → Option Addr → Nat → Nat → Option Addr → Nat → Nat → Option Addr → Nat → Nat → Option Addr → Nat → Nat → Int → Int → World → Prop) (fun _ _ _ _ _ _ _ _ _ _ _ _ _ _ _ _ _ _ => False) (fun _ ih => law13_SlideKeeps.b0 ih K) k
theorem law13_SlideKeeps.l0_succ (K : Value → World → Prop) (k : Nat) (x6A : Option Addr) (x6n : Nat) (x6c : Nat) (x8A : Option Addr) (x8n : Nat) (x8c : Nat) (x9A : Option Addr) (x9n : Nat) (x9c : Nat) (x10A : Option Addr) (x10n : Nat) (x10c : Nat) (x53A : Option Addr) (x53n : Nat) (x53c : Nat) (x54 : Int) (x55 : Int) (w : World) : law13_SlideKeeps.l0 K (k + 1) x6A x6n x6c x8A x8n x8c x9A x9n x9c x10A x10n x10c x53A x53n x53c x54 x55 w = law13_SlideKeeps.b0 (law13_SlideKeeps.l0 K k) K x6A x6n x6c x8A x8n x8c x9A x9n x9c x10A x10n x10c x53A x53n x53c x54 x55 w := rfl
abbrev law13_SlideKeeps.p9 (K : Value → World → Prop) (x6A : Option Addr) (x6n : Nat) (x6c : Nat) (x8A : Option Addr) (x8n : Nat) (x8c : Nat) (x9A : Option Addr) (x9n : Nat) (x9c : Nat) (x10A : Option Addr) (x10n : Nat) (x10c : Nat) (x53A : Option Addr) (x53n : Nat) (x53c : Nat) (x54 : Int) (x55 : Int) (w : World) : Prop :=
  ∃ k, law13_SlideKeeps.l0 K k x6A x6n x6c x8A x8n x8c x9A x9n x9c x10A x10n x10c x53A x53n x53c x54 x55 w
abbrev law13_SlideKeeps.p8 (K : Value → World → Prop) (x6A : Option Addr) (x6n : Nat) (x6c : Nat) (x8A : Option Addr) (x8n : Nat) (x8c : Nat) (x9A : Option Addr) (x9n : Nat) (x9c : Nat) (x10A : Option Addr) (x10n : Nat) (x10c : Nat) (w : World) : Prop :=
  law13_SlideKeeps.p9 K x6A x6n x6c x8A x8n x8c x9A x9n x9c x10A x10n x10c x8A x8n x8c ((x8n : Nat) : Int) 0 w
abbrev law13_SlideKeeps.p7 (K : Value → World → Prop) (x0 : Int) (x6A : Option Addr) (x6n : Nat) (x6c : Nat) (x8A : Option Addr) (x8n : Nat) (x8c : Nat) (x9A : Option Addr) (x9n : Nat) (x9c : Nat) (w : World) : Prop :=
  (0 ≤ (IntKind.wrap .i64 (x0 * (256 : Int))) ∧ (IntKind.wrap .i64 (x0 * (256 : Int))) ≤ (IntKind.wrap .i64 (x0 * (256 : Int))) ∧ (16 : Int) * (IntKind.wrap .i64 (x0 * (256 : Int))) ≤ 281474976710656 ∧ (IntKind.wrap .i64 (x0 * (256 : Int))) ≤ 9223372036854775807) ∧ wlet (w.alloc (.cells (madeCells #[.int .i64 0, .int .i64 0] ((IntKind.wrap .i64 (x0 * (256 : Int))).toNat * 2)) 43)) fun w26 => law13_SlideKeeps.p8 K x6A x6n x6c x8A x8n x8c x9A x9n x9c (some ⟨w.heap.size, 0, none⟩) ((IntKind.wrap .i64 (x0 * (256 : Int))).toNat) ((IntKind.wrap .i64 (x0 * (256 : Int))).toNat) w26
abbrev law13_SlideKeeps.p6 (K : Value → World → Prop) (x0 : Int) (x6A : Option Addr) (x6n : Nat) (x6c : Nat) (x8A : Option Addr) (x8n : Nat) (x8c : Nat) (x9A : Option Addr) (x9n : Nat) (x9c : Nat) (w : World) : Prop :=
  condP (((x8n : Nat) : Int) != ((x9n : Nat) : Int)) (K (.bool false) w) (law13_SlideKeeps.p7 K x0 x6A x6n x6c x8A x8n x8c x9A x9n x9c w)
abbrev law13_SlideKeeps.p5 (K : Value → World → Prop) (x0 : Int) (x1A : Option Addr) (x1n : Nat) (x1c : Nat) (x5A : Option Addr) (x5n : Nat) (x5c : Nat) (x6A : Option Addr) (x6n : Nat) (x6c : Nat) (w : World) : Prop :=
  CallsE Tryd.prog 18 #[.slice x1A x1n x1c] w (fun v16 w17 => ∃ (A18 : Option Addr) (m19 : Nat) (c20 : Nat), v16 = .slice A18 m19 c20 ∧ CallsE Tryd.prog 18 #[.slice x5A x5n x5c] w17 (fun v21 w22 => ∃ (A23 : Option Addr) (m24 : Nat) (c25 : Nat), v21 = .slice A23 m24 c25 ∧ law13_SlideKeeps.p6 K x0 x6A x6n x6c A18 m19 c20 A23 m24 c25 w22))
abbrev law13_SlideKeeps.p4 (K : Value → World → Prop) (x0 : Int) (x1A : Option Addr) (x1n : Nat) (x1c : Nat) (x5A : Option Addr) (x5n : Nat) (x5c : Nat) (x6A : Option Addr) (x6n : Nat) (x6c : Nat) (x7 : Int) (w : World) : Prop :=
  condP (x7 != (0 : Int)) (CallsE Tryd.prog 14 #[.int .i64 x0, .slice x1A x1n x1c] w (fun v13 w14 => ∃ (b15 : Bool), v13 = .bool b15 ∧ K (.bool (!b15)) w14)) (law13_SlideKeeps.p5 K x0 x1A x1n x1c x5A x5n x5c x6A x6n x6c w)
abbrev law13_SlideKeeps.p3 (K : Value → World → Prop) (x0 : Int) (x1A : Option Addr) (x1n : Nat) (x1c : Nat) (w : World) : Prop :=
  CallsE Tryd.prog 12 #[.int .i64 x0, .slice x1A x1n x1c] w (fun v4 w5 => ∃ (A6 : Option Addr) (m7 : Nat) (c8 : Nat) (A9 : Option Addr) (m10 : Nat) (c11 : Nat) (n12 : Int), v4 = .tuple #[.slice A6 m7 c8, .slice A9 m10 c11, .int .i64 n12] ∧ law13_SlideKeeps.p4 K x0 x1A x1n x1c A6 m7 c8 A9 m10 c11 n12 w5)
abbrev law13_SlideKeeps.p2 (K : Value → World → Prop) (x0 : Int) (x1A : Option Addr) (x1n : Nat) (x1c : Nat) (x27 : Bool) (w : World) : Prop :=
  condP x27 (K (.bool true) w) (law13_SlideKeeps.p3 K x0 x1A x1n x1c w)
abbrev law13_SlideKeeps.p1 (K : Value → World → Prop) (x0 : Int) (x1A : Option Addr) (x1n : Nat) (x1c : Nat) (w : World) : Prop :=
  condP (decide ((64 : Int) < x0)) (law13_SlideKeeps.p2 K x0 x1A x1n x1c true w) (law13_SlideKeeps.p2 K x0 x1A x1n x1c (decide ((64 : Int) < ((x1n : Nat) : Int))) w)
abbrev law13_SlideKeeps.p0 (K : Value → World → Prop) (x0 : Int) (x1A : Option Addr) (x1n : Nat) (x1c : Nat) (w : World) : Prop :=
  CallsE Tryd.prog 8 #[] w (fun v1 w2 => ∃ (b3 : Bool), v1 = .bool b3 ∧ condP (!b3) (K (.bool false) w2) (law13_SlideKeeps.p1 K x0 x1A x1n x1c w2))
abbrev law13_SlideKeeps.F (q0 : Int) (q1A : Option Addr) (q1n : Nat) (q1c : Nat) (K : Value → World → Prop) (w : World) : Prop :=
  law13_SlideKeeps.p0 K q0 q1A q1n q1c w
theorem law13_SlideKeeps.ok {q0 : Int} {q1A : Option Addr} {q1n : Nat} {q1c : Nat} {K : Value → World → Prop} {w : World} (h : law13_SlideKeeps.F q0 q1A q1n q1c K w) :
    CallsE Tryd.prog 5 #[.int .i64 q0, .slice q1A q1n q1c] w K := by
  refine calls_of_J (n := 199) (rs := [.tmp 4]) Tryd.func5 rfl rfl rfl rfl ?_
  refine J_seq (fun σ w => vI .i64 (σ 0) fun x0 => vS (σ 1) fun x1A x1n x1c => law13_SlideKeeps.p0 K x0 x1A x1n x1c w) ?_ ?_
  ·
    exact sh_sound _ _ _ _ (Eq.mp (by kernel_rfl) h)
  · intro σ w h
    obtain ⟨x0, e0, h⟩ := vI_elim h
    obtain ⟨x1A, x1n, x1c, e1, h⟩ := vS_elim h
    refine J.sub ?_ (((Sub.base _).upd e0).upd e1)
    clear e0 e1
    refine J_seq (fun σ w => vI .i64 (σ 0) fun x0 => vS (σ 1) fun x1A x1n x1c => law13_SlideKeeps.p1 K x0 x1A x1n x1c w) ?_ ?_
    ·
      exact sh_sound _ _ _ _ (Eq.mp (by kernel_rfl) h)
    · intro σ w h
      obtain ⟨x0, e0, h⟩ := vI_elim h
      obtain ⟨x1A, x1n, x1c, e1, h⟩ := vS_elim h
      refine J.sub ?_ (((Sub.base _).upd e0).upd e1)
      clear e0 e1
      refine J_seq (fun σ w => vI .i64 (σ 0) fun x0 => vS (σ 1) fun x1A x1n x1c => law13_SlideKeeps.p3 K x0 x1A x1n x1c w) ?_ ?_
      ·
        refine J_seq (fun σ w => vI .i64 (σ 0) fun x0 => vS (σ 1) fun x1A x1n x1c => vB (σ 27) fun x27 => law13_SlideKeeps.p2 K x0 x1A x1n x1c x27 w) ?_ ?_
        ·
          exact sh_sound _ _ _ _ (Eq.mp (by kernel_rfl) h)
        · intro σ w h
          obtain ⟨x0, e0, h⟩ := vI_elim h
          obtain ⟨x1A, x1n, x1c, e1, h⟩ := vS_elim h
          obtain ⟨x27, e27, h⟩ := vB_elim h
          refine J.sub ?_ ((((Sub.base _).upd e0).upd e1).upd e27)
          clear e0 e1 e27
          exact sh_sound _ _ _ _ (Eq.mp (by kernel_rfl) h)
      · intro σ w h
        obtain ⟨x0, e0, h⟩ := vI_elim h
        obtain ⟨x1A, x1n, x1c, e1, h⟩ := vS_elim h
        refine J.sub ?_ (((Sub.base _).upd e0).upd e1)
        clear e0 e1
        refine J_seq (fun σ w => vI .i64 (σ 0) fun x0 => vS (σ 1) fun x1A x1n x1c => vS (σ 5) fun x5A x5n x5c => vS (σ 6) fun x6A x6n x6c => vI .i64 (σ 7) fun x7 => law13_SlideKeeps.p4 K x0 x1A x1n x1c x5A x5n x5c x6A x6n x6c x7 w) ?_ ?_
        ·
          exact sh_sound _ _ _ _ (Eq.mp (by kernel_rfl) h)
        · intro σ w h
          obtain ⟨x0, e0, h⟩ := vI_elim h
          obtain ⟨x1A, x1n, x1c, e1, h⟩ := vS_elim h
          obtain ⟨x5A, x5n, x5c, e5, h⟩ := vS_elim h
          obtain ⟨x6A, x6n, x6c, e6, h⟩ := vS_elim h
          obtain ⟨x7, e7, h⟩ := vI_elim h
          refine J.sub ?_ ((((((Sub.base _).upd e0).upd e1).upd e5).upd e6).upd e7)
          clear e0 e1 e5 e6 e7
          refine J_seq (fun σ w => vI .i64 (σ 0) fun x0 => vS (σ 1) fun x1A x1n x1c => vS (σ 5) fun x5A x5n x5c => vS (σ 6) fun x6A x6n x6c => law13_SlideKeeps.p5 K x0 x1A x1n x1c x5A x5n x5c x6A x6n x6c w) ?_ ?_
          ·
            exact sh_sound _ _ _ _ (Eq.mp (by kernel_rfl) h)
          · intro σ w h
            obtain ⟨x0, e0, h⟩ := vI_elim h
            obtain ⟨x1A, x1n, x1c, e1, h⟩ := vS_elim h
            obtain ⟨x5A, x5n, x5c, e5, h⟩ := vS_elim h
            obtain ⟨x6A, x6n, x6c, e6, h⟩ := vS_elim h
            refine J.sub ?_ (((((Sub.base _).upd e0).upd e1).upd e5).upd e6)
            clear e0 e1 e5 e6
            refine J_seq (fun σ w => vI .i64 (σ 0) fun x0 => vS (σ 6) fun x6A x6n x6c => vS (σ 8) fun x8A x8n x8c => vS (σ 9) fun x9A x9n x9c => law13_SlideKeeps.p6 K x0 x6A x6n x6c x8A x8n x8c x9A x9n x9c w) ?_ ?_
            ·
              exact sh_sound _ _ _ _ (Eq.mp (by kernel_rfl) h)
            · intro σ w h
              obtain ⟨x0, e0, h⟩ := vI_elim h
              obtain ⟨x6A, x6n, x6c, e6, h⟩ := vS_elim h
              obtain ⟨x8A, x8n, x8c, e8, h⟩ := vS_elim h
              obtain ⟨x9A, x9n, x9c, e9, h⟩ := vS_elim h
              refine J.sub ?_ (((((Sub.base _).upd e0).upd e6).upd e8).upd e9)
              clear e0 e6 e8 e9
              refine J_seq (fun σ w => vI .i64 (σ 0) fun x0 => vS (σ 6) fun x6A x6n x6c => vS (σ 8) fun x8A x8n x8c => vS (σ 9) fun x9A x9n x9c => law13_SlideKeeps.p7 K x0 x6A x6n x6c x8A x8n x8c x9A x9n x9c w) ?_ ?_
              ·
                exact sh_sound _ _ _ _ (Eq.mp (by kernel_rfl) h)
              · intro σ w h
                obtain ⟨x0, e0, h⟩ := vI_elim h
                obtain ⟨x6A, x6n, x6c, e6, h⟩ := vS_elim h
                obtain ⟨x8A, x8n, x8c, e8, h⟩ := vS_elim h
                obtain ⟨x9A, x9n, x9c, e9, h⟩ := vS_elim h
                refine J.sub ?_ (((((Sub.base _).upd e0).upd e6).upd e8).upd e9)
                clear e0 e6 e8 e9
                refine J_seq (fun σ w => vS (σ 6) fun x6A x6n x6c => vS (σ 8) fun x8A x8n x8c => vS (σ 9) fun x9A x9n x9c => vS (σ 10) fun x10A x10n x10c => law13_SlideKeeps.p8 K x6A x6n x6c x8A x8n x8c x9A x9n x9c x10A x10n x10c w) ?_ ?_
                ·
                  exact sh_sound _ _ _ _ (Eq.mp (by kernel_rfl) h)
                · intro σ w h
                  obtain ⟨x6A, x6n, x6c, e6, h⟩ := vS_elim h
                  obtain ⟨x8A, x8n, x8c, e8, h⟩ := vS_elim h
                  obtain ⟨x9A, x9n, x9c, e9, h⟩ := vS_elim h
                  obtain ⟨x10A, x10n, x10c, e10, h⟩ := vS_elim h
                  refine J.sub ?_ (((((Sub.base _).upd e6).upd e8).upd e9).upd e10)
                  clear e6 e8 e9 e10
                  refine J_seq (fun σ w => vS (σ 6) fun x6A x6n x6c => vS (σ 8) fun x8A x8n x8c => vS (σ 9) fun x9A x9n x9c => vS (σ 10) fun x10A x10n x10c => law13_SlideKeeps.p15 K x6A x6n x6c x8A x8n x8c x9A x9n x9c x10A x10n x10c w) ?_ ?_
                  ·
                    refine J_seq (fun σ w => vS (σ 6) fun x6A x6n x6c => vS (σ 8) fun x8A x8n x8c => vS (σ 9) fun x9A x9n x9c => vS (σ 10) fun x10A x10n x10c => vS (σ 53) fun x53A x53n x53c => vI .i64 (σ 54) fun x54 => vI .i64 (σ 55) fun x55 => law13_SlideKeeps.p9 K x6A x6n x6c x8A x8n x8c x9A x9n x9c x10A x10n x10c x53A x53n x53c x54 x55 w) ?_ ?_
                    ·
                      exact sh_sound _ _ _ _ (Eq.mp (by kernel_rfl) h)
                    · intro σ w h
                      obtain ⟨x6A, x6n, x6c, e6, h⟩ := vS_elim h
                      obtain ⟨x8A, x8n, x8c, e8, h⟩ := vS_elim h
                      obtain ⟨x9A, x9n, x9c, e9, h⟩ := vS_elim h
                      obtain ⟨x10A, x10n, x10c, e10, h⟩ := vS_elim h
                      obtain ⟨x53A, x53n, x53c, e53, h⟩ := vS_elim h
                      obtain ⟨x54, e54, h⟩ := vI_elim h
                      obtain ⟨x55, e55, h⟩ := vI_elim h
                      refine J.sub ?_ ((((((((Sub.base _).upd e6).upd e8).upd e9).upd e10).upd e53).upd e54).upd e55)
                      clear e6 e8 e9 e10 e53 e54 e55
                      refine J_block ?_
                      refine J_loop (fun k σ w => vS (σ 6) fun x6A x6n x6c => vS (σ 8) fun x8A x8n x8c => vS (σ 9) fun x9A x9n x9c => vS (σ 10) fun x10A x10n x10c => vS (σ 53) fun x53A x53n x53c => vI .i64 (σ 54) fun x54 => vI .i64 (σ 55) fun x55 => law13_SlideKeeps.l0 K k x6A x6n x6c x8A x8n x8c x9A x9n x9c x10A x10n x10c x53A x53n x53c x54 x55 w) (Eq.mp (by kernel_rfl) h) ?_ ?_
                      · intro σ w h
                        obtain ⟨x6A, x6n, x6c, e6, h⟩ := vS_elim h
                        obtain ⟨x8A, x8n, x8c, e8, h⟩ := vS_elim h
                        obtain ⟨x9A, x9n, x9c, e9, h⟩ := vS_elim h
                        obtain ⟨x10A, x10n, x10c, e10, h⟩ := vS_elim h
                        obtain ⟨x53A, x53n, x53c, e53, h⟩ := vS_elim h
                        obtain ⟨x54, e54, h⟩ := vI_elim h
                        obtain ⟨x55, e55, h⟩ := vI_elim h
                        exact h
                      · intro k0 σ w h
                        obtain ⟨x6A, x6n, x6c, e6, h⟩ := vS_elim h
                        obtain ⟨x8A, x8n, x8c, e8, h⟩ := vS_elim h
                        obtain ⟨x9A, x9n, x9c, e9, h⟩ := vS_elim h
                        obtain ⟨x10A, x10n, x10c, e10, h⟩ := vS_elim h
                        obtain ⟨x53A, x53n, x53c, e53, h⟩ := vS_elim h
                        obtain ⟨x54, e54, h⟩ := vI_elim h
                        obtain ⟨x55, e55, h⟩ := vI_elim h
                        refine J.sub ?_ ((((((((Sub.base _).upd e6).upd e8).upd e9).upd e10).upd e53).upd e54).upd e55)
                        clear e6 e8 e9 e10 e53 e54 e55
                        refine J_seq (fun σ w => vS (σ 6) fun x6A x6n x6c => vS (σ 8) fun x8A x8n x8c => vS (σ 9) fun x9A x9n x9c => vS (σ 10) fun x10A x10n x10c => vS (σ 53) fun x53A x53n x53c => vI .i64 (σ 54) fun x54 => vI .i64 (σ 55) fun x55 => vB (σ 56) fun x56 => law13_SlideKeeps.p10 (law13_SlideKeeps.l0 K k0) K x6A x6n x6c x8A x8n x8c x9A x9n x9c x10A x10n x10c x53A x53n x53c x54 x55 x56 w) ?_ ?_
                        ·
                          exact sh_sound _ _ _ _ (Eq.mp (by kernel_rfl) h)
                        · intro σ w h
                          obtain ⟨x6A, x6n, x6c, e6, h⟩ := vS_elim h
                          obtain ⟨x8A, x8n, x8c, e8, h⟩ := vS_elim h
                          obtain ⟨x9A, x9n, x9c, e9, h⟩ := vS_elim h
                          obtain ⟨x10A, x10n, x10c, e10, h⟩ := vS_elim h
                          obtain ⟨x53A, x53n, x53c, e53, h⟩ := vS_elim h
                          obtain ⟨x54, e54, h⟩ := vI_elim h
                          obtain ⟨x55, e55, h⟩ := vI_elim h
                          obtain ⟨x56, e56, h⟩ := vB_elim h
                          refine J.sub ?_ (((((((((Sub.base _).upd e6).upd e8).upd e9).upd e10).upd e53).upd e54).upd e55).upd e56)
                          clear e6 e8 e9 e10 e53 e54 e55 e56
                          refine J_seq (fun σ w => vS (σ 6) fun x6A x6n x6c => vS (σ 8) fun x8A x8n x8c => vS (σ 9) fun x9A x9n x9c => vS (σ 10) fun x10A x10n x10c => vS (σ 53) fun x53A x53n x53c => vI .i64 (σ 54) fun x54 => vI .i64 (σ 55) fun x55 => law13_SlideKeeps.p11 (law13_SlideKeeps.l0 K k0) K x6A x6n x6c x8A x8n x8c x9A x9n x9c x10A x10n x10c x53A x53n x53c x54 x55 w) ?_ ?_
                          ·
                            exact sh_sound _ _ _ _ (Eq.mp (by kernel_rfl) h)
                          · intro σ w h
                            obtain ⟨x6A, x6n, x6c, e6, h⟩ := vS_elim h
                            obtain ⟨x8A, x8n, x8c, e8, h⟩ := vS_elim h
                            obtain ⟨x9A, x9n, x9c, e9, h⟩ := vS_elim h
                            obtain ⟨x10A, x10n, x10c, e10, h⟩ := vS_elim h
                            obtain ⟨x53A, x53n, x53c, e53, h⟩ := vS_elim h
                            obtain ⟨x54, e54, h⟩ := vI_elim h
                            obtain ⟨x55, e55, h⟩ := vI_elim h
                            refine J.sub ?_ ((((((((Sub.base _).upd e6).upd e8).upd e9).upd e10).upd e53).upd e54).upd e55)
                            clear e6 e8 e9 e10 e53 e54 e55
                            refine J_seq (fun σ w => vS (σ 6) fun x6A x6n x6c => vS (σ 8) fun x8A x8n x8c => vS (σ 9) fun x9A x9n x9c => vS (σ 10) fun x10A x10n x10c => vS (σ 53) fun x53A x53n x53c => vI .i64 (σ 54) fun x54 => vI .i64 (σ 55) fun x55 => law13_SlideKeeps.p14 (law13_SlideKeeps.l0 K k0) K x6A x6n x6c x8A x8n x8c x9A x9n x9c x10A x10n x10c x53A x53n x53c x54 x55 w) ?_ ?_
                            ·
                              refine J_block ?_
                              refine J_seq (fun σ w => vS (σ 6) fun x6A x6n x6c => vS (σ 8) fun x8A x8n x8c => vS (σ 9) fun x9A x9n x9c => vS (σ 10) fun x10A x10n x10c => vI .i64 (σ 11) fun x11 => vPa (σ 12) fun x12 => vS (σ 53) fun x53A x53n x53c => vI .i64 (σ 54) fun x54 => vI .i64 (σ 55) fun x55 => law13_SlideKeeps.p12 (law13_SlideKeeps.l0 K k0) K x6A x6n x6c x8A x8n x8c x9A x9n x9c x10A x10n x10c x11 x12 x53A x53n x53c x54 x55 w) ?_ ?_
                              ·
                                exact sh_sound _ _ _ _ (Eq.mp (by kernel_rfl) h)
                              · intro σ w h
                                obtain ⟨x6A, x6n, x6c, e6, h⟩ := vS_elim h
                                obtain ⟨x8A, x8n, x8c, e8, h⟩ := vS_elim h
                                obtain ⟨x9A, x9n, x9c, e9, h⟩ := vS_elim h
                                obtain ⟨x10A, x10n, x10c, e10, h⟩ := vS_elim h
                                obtain ⟨x11, e11, h⟩ := vI_elim h
                                obtain ⟨x12, e12, h⟩ := vPa_elim h
                                obtain ⟨x53A, x53n, x53c, e53, h⟩ := vS_elim h
                                obtain ⟨x54, e54, h⟩ := vI_elim h
                                obtain ⟨x55, e55, h⟩ := vI_elim h
                                refine J.sub ?_ ((((((((((Sub.base _).upd e6).upd e8).upd e9).upd e10).upd e11).upd e12).upd e53).upd e54).upd e55)
                                clear e6 e8 e9 e10 e11 e12 e53 e54 e55
                                refine J_seq (fun σ w => vS (σ 6) fun x6A x6n x6c => vS (σ 8) fun x8A x8n x8c => vS (σ 9) fun x9A x9n x9c => vS (σ 10) fun x10A x10n x10c => vI .i64 (σ 11) fun x11 => vPa (σ 12) fun x12 => vI .i64 (σ 13) fun x13 => vS (σ 53) fun x53A x53n x53c => vI .i64 (σ 54) fun x54 => vI .i64 (σ 55) fun x55 => law13_SlideKeeps.p13 (law13_SlideKeeps.l0 K k0) K x6A x6n x6c x8A x8n x8c x9A x9n x9c x10A x10n x10c x11 x12 x13 x53A x53n x53c x54 x55 w) ?_ ?_
                                ·
                                  exact sh_sound _ _ _ _ (Eq.mp (by kernel_rfl) h)
                                · intro σ w h
                                  obtain ⟨x6A, x6n, x6c, e6, h⟩ := vS_elim h
                                  obtain ⟨x8A, x8n, x8c, e8, h⟩ := vS_elim h
                                  obtain ⟨x9A, x9n, x9c, e9, h⟩ := vS_elim h
                                  obtain ⟨x10A, x10n, x10c, e10, h⟩ := vS_elim h
                                  obtain ⟨x11, e11, h⟩ := vI_elim h
                                  obtain ⟨x12, e12, h⟩ := vPa_elim h
                                  obtain ⟨x13, e13, h⟩ := vI_elim h
                                  obtain ⟨x53A, x53n, x53c, e53, h⟩ := vS_elim h
                                  obtain ⟨x54, e54, h⟩ := vI_elim h
                                  obtain ⟨x55, e55, h⟩ := vI_elim h
                                  refine J.sub ?_ (((((((((((Sub.base _).upd e6).upd e8).upd e9).upd e10).upd e11).upd e12).upd e13).upd e53).upd e54).upd e55)
                                  clear e6 e8 e9 e10 e11 e12 e13 e53 e54 e55
                                  refine J_block ?_
                                  refine J_loop (fun k σ w => vS (σ 6) fun x6A x6n x6c => vS (σ 8) fun x8A x8n x8c => vS (σ 9) fun x9A x9n x9c => vS (σ 10) fun x10A x10n x10c => vI .i64 (σ 11) fun x11 => vPa (σ 12) fun x12 => vI .i64 (σ 13) fun x13 => vS (σ 53) fun x53A x53n x53c => vI .i64 (σ 54) fun x54 => vI .i64 (σ 55) fun x55 => law13_SlideKeeps.l1 (law13_SlideKeeps.l0 K k0) K k x6A x6n x6c x8A x8n x8c x9A x9n x9c x10A x10n x10c x11 x12 x13 x53A x53n x53c x54 x55 w) (Eq.mp (by kernel_rfl) h) ?_ ?_
                                  · intro σ w h
                                    obtain ⟨x6A, x6n, x6c, e6, h⟩ := vS_elim h
                                    obtain ⟨x8A, x8n, x8c, e8, h⟩ := vS_elim h
                                    obtain ⟨x9A, x9n, x9c, e9, h⟩ := vS_elim h
                                    obtain ⟨x10A, x10n, x10c, e10, h⟩ := vS_elim h
                                    obtain ⟨x11, e11, h⟩ := vI_elim h
                                    obtain ⟨x12, e12, h⟩ := vPa_elim h
                                    obtain ⟨x13, e13, h⟩ := vI_elim h
                                    obtain ⟨x53A, x53n, x53c, e53, h⟩ := vS_elim h
                                    obtain ⟨x54, e54, h⟩ := vI_elim h
                                    obtain ⟨x55, e55, h⟩ := vI_elim h
                                    exact h
                                  · intro k1 σ w h
                                    obtain ⟨x6A, x6n, x6c, e6, h⟩ := vS_elim h
                                    obtain ⟨x8A, x8n, x8c, e8, h⟩ := vS_elim h
                                    obtain ⟨x9A, x9n, x9c, e9, h⟩ := vS_elim h
                                    obtain ⟨x10A, x10n, x10c, e10, h⟩ := vS_elim h
                                    obtain ⟨x11, e11, h⟩ := vI_elim h
                                    obtain ⟨x12, e12, h⟩ := vPa_elim h
                                    obtain ⟨x13, e13, h⟩ := vI_elim h
                                    obtain ⟨x53A, x53n, x53c, e53, h⟩ := vS_elim h
                                    obtain ⟨x54, e54, h⟩ := vI_elim h
                                    obtain ⟨x55, e55, h⟩ := vI_elim h
                                    refine J.sub ?_ (((((((((((Sub.base _).upd e6).upd e8).upd e9).upd e10).upd e11).upd e12).upd e13).upd e53).upd e54).upd e55)
                                    clear e6 e8 e9 e10 e11 e12 e13 e53 e54 e55
                                    exact sh_sound _ _ _ _ (Eq.mp (by kernel_rfl) h)
                            · intro σ w h
                              obtain ⟨x6A, x6n, x6c, e6, h⟩ := vS_elim h
                              obtain ⟨x8A, x8n, x8c, e8, h⟩ := vS_elim h
                              obtain ⟨x9A, x9n, x9c, e9, h⟩ := vS_elim h
                              obtain ⟨x10A, x10n, x10c, e10, h⟩ := vS_elim h
                              obtain ⟨x53A, x53n, x53c, e53, h⟩ := vS_elim h
                              obtain ⟨x54, e54, h⟩ := vI_elim h
                              obtain ⟨x55, e55, h⟩ := vI_elim h
                              refine J.sub ?_ ((((((((Sub.base _).upd e6).upd e8).upd e9).upd e10).upd e53).upd e54).upd e55)
                              clear e6 e8 e9 e10 e53 e54 e55
                              exact sh_sound _ _ _ _ (Eq.mp (by kernel_rfl) h)
                  · intro σ w h
                    obtain ⟨x6A, x6n, x6c, e6, h⟩ := vS_elim h
                    obtain ⟨x8A, x8n, x8c, e8, h⟩ := vS_elim h
                    obtain ⟨x9A, x9n, x9c, e9, h⟩ := vS_elim h
                    obtain ⟨x10A, x10n, x10c, e10, h⟩ := vS_elim h
                    refine J.sub ?_ (((((Sub.base _).upd e6).upd e8).upd e9).upd e10)
                    clear e6 e8 e9 e10
                    refine J_seq (fun σ w => vS (σ 6) fun x6A x6n x6c => vS (σ 8) fun x8A x8n x8c => vS (σ 9) fun x9A x9n x9c => vS (σ 10) fun x10A x10n x10c => law13_SlideKeeps.p23 K x6A x6n x6c x8A x8n x8c x9A x9n x9c x10A x10n x10c w) ?_ ?_
                    ·
                      refine J_seq (fun σ w => vS (σ 6) fun x6A x6n x6c => vS (σ 8) fun x8A x8n x8c => vS (σ 9) fun x9A x9n x9c => vS (σ 10) fun x10A x10n x10c => vS (σ 77) fun x77A x77n x77c => vI .i64 (σ 78) fun x78 => vI .i64 (σ 79) fun x79 => law13_SlideKeeps.p16 K x6A x6n x6c x8A x8n x8c x9A x9n x9c x10A x10n x10c x77A x77n x77c x78 x79 w) ?_ ?_
                      ·
                        exact sh_sound _ _ _ _ (Eq.mp (by kernel_rfl) h)
                      · intro σ w h
                        obtain ⟨x6A, x6n, x6c, e6, h⟩ := vS_elim h
                        obtain ⟨x8A, x8n, x8c, e8, h⟩ := vS_elim h
                        obtain ⟨x9A, x9n, x9c, e9, h⟩ := vS_elim h
                        obtain ⟨x10A, x10n, x10c, e10, h⟩ := vS_elim h
                        obtain ⟨x77A, x77n, x77c, e77, h⟩ := vS_elim h
                        obtain ⟨x78, e78, h⟩ := vI_elim h
                        obtain ⟨x79, e79, h⟩ := vI_elim h
                        refine J.sub ?_ ((((((((Sub.base _).upd e6).upd e8).upd e9).upd e10).upd e77).upd e78).upd e79)
                        clear e6 e8 e9 e10 e77 e78 e79
                        refine J_block ?_
                        refine J_loop (fun k σ w => vS (σ 6) fun x6A x6n x6c => vS (σ 8) fun x8A x8n x8c => vS (σ 9) fun x9A x9n x9c => vS (σ 10) fun x10A x10n x10c => vS (σ 77) fun x77A x77n x77c => vI .i64 (σ 78) fun x78 => vI .i64 (σ 79) fun x79 => law13_SlideKeeps.l2 K k x6A x6n x6c x8A x8n x8c x9A x9n x9c x10A x10n x10c x77A x77n x77c x78 x79 w) (Eq.mp (by kernel_rfl) h) ?_ ?_
                        · intro σ w h
                          obtain ⟨x6A, x6n, x6c, e6, h⟩ := vS_elim h
                          obtain ⟨x8A, x8n, x8c, e8, h⟩ := vS_elim h
                          obtain ⟨x9A, x9n, x9c, e9, h⟩ := vS_elim h
                          obtain ⟨x10A, x10n, x10c, e10, h⟩ := vS_elim h
                          obtain ⟨x77A, x77n, x77c, e77, h⟩ := vS_elim h
                          obtain ⟨x78, e78, h⟩ := vI_elim h
                          obtain ⟨x79, e79, h⟩ := vI_elim h
                          exact h
                        · intro k2 σ w h
                          obtain ⟨x6A, x6n, x6c, e6, h⟩ := vS_elim h
                          obtain ⟨x8A, x8n, x8c, e8, h⟩ := vS_elim h
                          obtain ⟨x9A, x9n, x9c, e9, h⟩ := vS_elim h
                          obtain ⟨x10A, x10n, x10c, e10, h⟩ := vS_elim h
                          obtain ⟨x77A, x77n, x77c, e77, h⟩ := vS_elim h
                          obtain ⟨x78, e78, h⟩ := vI_elim h
                          obtain ⟨x79, e79, h⟩ := vI_elim h
                          refine J.sub ?_ ((((((((Sub.base _).upd e6).upd e8).upd e9).upd e10).upd e77).upd e78).upd e79)
                          clear e6 e8 e9 e10 e77 e78 e79
                          refine J_seq (fun σ w => vS (σ 6) fun x6A x6n x6c => vS (σ 8) fun x8A x8n x8c => vS (σ 9) fun x9A x9n x9c => vS (σ 10) fun x10A x10n x10c => vS (σ 77) fun x77A x77n x77c => vI .i64 (σ 78) fun x78 => vI .i64 (σ 79) fun x79 => vB (σ 80) fun x80 => law13_SlideKeeps.p17 (law13_SlideKeeps.l2 K k2) K x6A x6n x6c x8A x8n x8c x9A x9n x9c x10A x10n x10c x77A x77n x77c x78 x79 x80 w) ?_ ?_
                          ·
                            exact sh_sound _ _ _ _ (Eq.mp (by kernel_rfl) h)
                          · intro σ w h
                            obtain ⟨x6A, x6n, x6c, e6, h⟩ := vS_elim h
                            obtain ⟨x8A, x8n, x8c, e8, h⟩ := vS_elim h
                            obtain ⟨x9A, x9n, x9c, e9, h⟩ := vS_elim h
                            obtain ⟨x10A, x10n, x10c, e10, h⟩ := vS_elim h
                            obtain ⟨x77A, x77n, x77c, e77, h⟩ := vS_elim h
                            obtain ⟨x78, e78, h⟩ := vI_elim h
                            obtain ⟨x79, e79, h⟩ := vI_elim h
                            obtain ⟨x80, e80, h⟩ := vB_elim h
                            refine J.sub ?_ (((((((((Sub.base _).upd e6).upd e8).upd e9).upd e10).upd e77).upd e78).upd e79).upd e80)
                            clear e6 e8 e9 e10 e77 e78 e79 e80
                            refine J_seq (fun σ w => vS (σ 6) fun x6A x6n x6c => vS (σ 8) fun x8A x8n x8c => vS (σ 9) fun x9A x9n x9c => vS (σ 10) fun x10A x10n x10c => vS (σ 77) fun x77A x77n x77c => vI .i64 (σ 78) fun x78 => vI .i64 (σ 79) fun x79 => law13_SlideKeeps.p18 (law13_SlideKeeps.l2 K k2) K x6A x6n x6c x8A x8n x8c x9A x9n x9c x10A x10n x10c x77A x77n x77c x78 x79 w) ?_ ?_
                            ·
                              exact sh_sound _ _ _ _ (Eq.mp (by kernel_rfl) h)
                            · intro σ w h
                              obtain ⟨x6A, x6n, x6c, e6, h⟩ := vS_elim h
                              obtain ⟨x8A, x8n, x8c, e8, h⟩ := vS_elim h
                              obtain ⟨x9A, x9n, x9c, e9, h⟩ := vS_elim h
                              obtain ⟨x10A, x10n, x10c, e10, h⟩ := vS_elim h
                              obtain ⟨x77A, x77n, x77c, e77, h⟩ := vS_elim h
                              obtain ⟨x78, e78, h⟩ := vI_elim h
                              obtain ⟨x79, e79, h⟩ := vI_elim h
                              refine J.sub ?_ ((((((((Sub.base _).upd e6).upd e8).upd e9).upd e10).upd e77).upd e78).upd e79)
                              clear e6 e8 e9 e10 e77 e78 e79
                              refine J_seq (fun σ w => vS (σ 6) fun x6A x6n x6c => vS (σ 8) fun x8A x8n x8c => vS (σ 9) fun x9A x9n x9c => vS (σ 10) fun x10A x10n x10c => vS (σ 77) fun x77A x77n x77c => vI .i64 (σ 78) fun x78 => vI .i64 (σ 79) fun x79 => law13_SlideKeeps.p22 (law13_SlideKeeps.l2 K k2) K x6A x6n x6c x8A x8n x8c x9A x9n x9c x10A x10n x10c x77A x77n x77c x78 x79 w) ?_ ?_
                              ·
                                refine J_block ?_
                                refine J_seq (fun σ w => vS (σ 6) fun x6A x6n x6c => vS (σ 8) fun x8A x8n x8c => vS (σ 9) fun x9A x9n x9c => vS (σ 10) fun x10A x10n x10c => vPa (σ 15) fun x15 => vS (σ 77) fun x77A x77n x77c => vI .i64 (σ 78) fun x78 => vI .i64 (σ 79) fun x79 => law13_SlideKeeps.p19 (law13_SlideKeeps.l2 K k2) K x6A x6n x6c x8A x8n x8c x9A x9n x9c x10A x10n x10c x15 x77A x77n x77c x78 x79 w) ?_ ?_
                                ·
                                  exact sh_sound _ _ _ _ (Eq.mp (by kernel_rfl) h)
                                · intro σ w h
                                  obtain ⟨x6A, x6n, x6c, e6, h⟩ := vS_elim h
                                  obtain ⟨x8A, x8n, x8c, e8, h⟩ := vS_elim h
                                  obtain ⟨x9A, x9n, x9c, e9, h⟩ := vS_elim h
                                  obtain ⟨x10A, x10n, x10c, e10, h⟩ := vS_elim h
                                  obtain ⟨x15, e15, h⟩ := vPa_elim h
                                  obtain ⟨x77A, x77n, x77c, e77, h⟩ := vS_elim h
                                  obtain ⟨x78, e78, h⟩ := vI_elim h
                                  obtain ⟨x79, e79, h⟩ := vI_elim h
                                  refine J.sub ?_ (((((((((Sub.base _).upd e6).upd e8).upd e9).upd e10).upd e15).upd e77).upd e78).upd e79)
                                  clear e6 e8 e9 e10 e15 e77 e78 e79
                                  refine J_seq (fun σ w => vS (σ 6) fun x6A x6n x6c => vS (σ 8) fun x8A x8n x8c => vS (σ 9) fun x9A x9n x9c => vS (σ 10) fun x10A x10n x10c => vPa (σ 15) fun x15 => vS (σ 77) fun x77A x77n x77c => vI .i64 (σ 78) fun x78 => vI .i64 (σ 79) fun x79 => law13_SlideKeeps.p21 (law13_SlideKeeps.l2 K k2) K x6A x6n x6c x8A x8n x8c x9A x9n x9c x10A x10n x10c x15 x77A x77n x77c x78 x79 w) ?_ ?_
                                  ·
                                    refine J_seq (fun σ w => vS (σ 6) fun x6A x6n x6c => vS (σ 8) fun x8A x8n x8c => vS (σ 9) fun x9A x9n x9c => vS (σ 10) fun x10A x10n x10c => vPa (σ 15) fun x15 => vS (σ 77) fun x77A x77n x77c => vI .i64 (σ 78) fun x78 => vI .i64 (σ 79) fun x79 => vB (σ 115) fun x115 => law13_SlideKeeps.p20 (law13_SlideKeeps.l2 K k2) K x6A x6n x6c x8A x8n x8c x9A x9n x9c x10A x10n x10c x15 x77A x77n x77c x78 x79 x115 w) ?_ ?_
                                    ·
                                      exact sh_sound _ _ _ _ (Eq.mp (by kernel_rfl) h)
                                    · intro σ w h
                                      obtain ⟨x6A, x6n, x6c, e6, h⟩ := vS_elim h
                                      obtain ⟨x8A, x8n, x8c, e8, h⟩ := vS_elim h
                                      obtain ⟨x9A, x9n, x9c, e9, h⟩ := vS_elim h
                                      obtain ⟨x10A, x10n, x10c, e10, h⟩ := vS_elim h
                                      obtain ⟨x15, e15, h⟩ := vPa_elim h
                                      obtain ⟨x77A, x77n, x77c, e77, h⟩ := vS_elim h
                                      obtain ⟨x78, e78, h⟩ := vI_elim h
                                      obtain ⟨x79, e79, h⟩ := vI_elim h
                                      obtain ⟨x115, e115, h⟩ := vB_elim h
                                      refine J.sub ?_ ((((((((((Sub.base _).upd e6).upd e8).upd e9).upd e10).upd e15).upd e77).upd e78).upd e79).upd e115)
                                      clear e6 e8 e9 e10 e15 e77 e78 e79 e115
                                      exact sh_sound _ _ _ _ (Eq.mp (by kernel_rfl) h)
                                  · intro σ w h
                                    obtain ⟨x6A, x6n, x6c, e6, h⟩ := vS_elim h
                                    obtain ⟨x8A, x8n, x8c, e8, h⟩ := vS_elim h
                                    obtain ⟨x9A, x9n, x9c, e9, h⟩ := vS_elim h
                                    obtain ⟨x10A, x10n, x10c, e10, h⟩ := vS_elim h
                                    obtain ⟨x15, e15, h⟩ := vPa_elim h
                                    obtain ⟨x77A, x77n, x77c, e77, h⟩ := vS_elim h
                                    obtain ⟨x78, e78, h⟩ := vI_elim h
                                    obtain ⟨x79, e79, h⟩ := vI_elim h
                                    refine J.sub ?_ (((((((((Sub.base _).upd e6).upd e8).upd e9).upd e10).upd e15).upd e77).upd e78).upd e79)
                                    clear e6 e8 e9 e10 e15 e77 e78 e79
                                    exact J_held [] [(0, 0), (1, 0), (3, 0), (5, 0), (10, 0), (11, 0), (13, 0), (15, 0), (2, 1), (4, 1), (6, 1), (7, 0), (8, 0), (12, 1), (14, 1), (16, 1), (17, 0), (18, 0), (9, 2), (19, 2), (20, 2)] (by kernel_rfl) (Eq.mp (by kernel_rfl) h)
                              · intro σ w h
                                obtain ⟨x6A, x6n, x6c, e6, h⟩ := vS_elim h
                                obtain ⟨x8A, x8n, x8c, e8, h⟩ := vS_elim h
                                obtain ⟨x9A, x9n, x9c, e9, h⟩ := vS_elim h
                                obtain ⟨x10A, x10n, x10c, e10, h⟩ := vS_elim h
                                obtain ⟨x77A, x77n, x77c, e77, h⟩ := vS_elim h
                                obtain ⟨x78, e78, h⟩ := vI_elim h
                                obtain ⟨x79, e79, h⟩ := vI_elim h
                                refine J.sub ?_ ((((((((Sub.base _).upd e6).upd e8).upd e9).upd e10).upd e77).upd e78).upd e79)
                                clear e6 e8 e9 e10 e77 e78 e79
                                exact sh_sound _ _ _ _ (Eq.mp (by kernel_rfl) h)
                    · intro σ w h
                      obtain ⟨x6A, x6n, x6c, e6, h⟩ := vS_elim h
                      obtain ⟨x8A, x8n, x8c, e8, h⟩ := vS_elim h
                      obtain ⟨x9A, x9n, x9c, e9, h⟩ := vS_elim h
                      obtain ⟨x10A, x10n, x10c, e10, h⟩ := vS_elim h
                      refine J.sub ?_ (((((Sub.base _).upd e6).upd e8).upd e9).upd e10)
                      clear e6 e8 e9 e10
                      refine J_seq (fun σ w => law13_SlideKeeps.p32 K w) ?_ ?_
                      ·
                        refine J_seq (fun σ w => vS (σ 6) fun x6A x6n x6c => vS (σ 8) fun x8A x8n x8c => vS (σ 10) fun x10A x10n x10c => vS (σ 138) fun x138A x138n x138c => vI .i64 (σ 139) fun x139 => vI .i64 (σ 140) fun x140 => law13_SlideKeeps.p24 K x6A x6n x6c x8A x8n x8c x10A x10n x10c x138A x138n x138c x139 x140 w) ?_ ?_
                        ·
                          exact sh_sound _ _ _ _ (Eq.mp (by kernel_rfl) h)
                        · intro σ w h
                          obtain ⟨x6A, x6n, x6c, e6, h⟩ := vS_elim h
                          obtain ⟨x8A, x8n, x8c, e8, h⟩ := vS_elim h
                          obtain ⟨x10A, x10n, x10c, e10, h⟩ := vS_elim h
                          obtain ⟨x138A, x138n, x138c, e138, h⟩ := vS_elim h
                          obtain ⟨x139, e139, h⟩ := vI_elim h
                          obtain ⟨x140, e140, h⟩ := vI_elim h
                          refine J.sub ?_ (((((((Sub.base _).upd e6).upd e8).upd e10).upd e138).upd e139).upd e140)
                          clear e6 e8 e10 e138 e139 e140
                          refine J_block ?_
                          refine J_loop (fun k σ w => vS (σ 6) fun x6A x6n x6c => vS (σ 8) fun x8A x8n x8c => vS (σ 10) fun x10A x10n x10c => vS (σ 138) fun x138A x138n x138c => vI .i64 (σ 139) fun x139 => vI .i64 (σ 140) fun x140 => law13_SlideKeeps.l3 K k x6A x6n x6c x8A x8n x8c x10A x10n x10c x138A x138n x138c x139 x140 w) (Eq.mp (by kernel_rfl) h) ?_ ?_
                          · intro σ w h
                            obtain ⟨x6A, x6n, x6c, e6, h⟩ := vS_elim h
                            obtain ⟨x8A, x8n, x8c, e8, h⟩ := vS_elim h
                            obtain ⟨x10A, x10n, x10c, e10, h⟩ := vS_elim h
                            obtain ⟨x138A, x138n, x138c, e138, h⟩ := vS_elim h
                            obtain ⟨x139, e139, h⟩ := vI_elim h
                            obtain ⟨x140, e140, h⟩ := vI_elim h
                            exact h
                          · intro k3 σ w h
                            obtain ⟨x6A, x6n, x6c, e6, h⟩ := vS_elim h
                            obtain ⟨x8A, x8n, x8c, e8, h⟩ := vS_elim h
                            obtain ⟨x10A, x10n, x10c, e10, h⟩ := vS_elim h
                            obtain ⟨x138A, x138n, x138c, e138, h⟩ := vS_elim h
                            obtain ⟨x139, e139, h⟩ := vI_elim h
                            obtain ⟨x140, e140, h⟩ := vI_elim h
                            refine J.sub ?_ (((((((Sub.base _).upd e6).upd e8).upd e10).upd e138).upd e139).upd e140)
                            clear e6 e8 e10 e138 e139 e140
                            refine J_seq (fun σ w => vS (σ 6) fun x6A x6n x6c => vS (σ 8) fun x8A x8n x8c => vS (σ 10) fun x10A x10n x10c => vS (σ 138) fun x138A x138n x138c => vI .i64 (σ 139) fun x139 => vI .i64 (σ 140) fun x140 => vB (σ 141) fun x141 => law13_SlideKeeps.p25 (law13_SlideKeeps.l3 K k3) K x6A x6n x6c x8A x8n x8c x10A x10n x10c x138A x138n x138c x139 x140 x141 w) ?_ ?_
                            ·
                              exact sh_sound _ _ _ _ (Eq.mp (by kernel_rfl) h)
                            · intro σ w h
                              obtain ⟨x6A, x6n, x6c, e6, h⟩ := vS_elim h
                              obtain ⟨x8A, x8n, x8c, e8, h⟩ := vS_elim h
                              obtain ⟨x10A, x10n, x10c, e10, h⟩ := vS_elim h
                              obtain ⟨x138A, x138n, x138c, e138, h⟩ := vS_elim h
                              obtain ⟨x139, e139, h⟩ := vI_elim h
                              obtain ⟨x140, e140, h⟩ := vI_elim h
                              obtain ⟨x141, e141, h⟩ := vB_elim h
                              refine J.sub ?_ ((((((((Sub.base _).upd e6).upd e8).upd e10).upd e138).upd e139).upd e140).upd e141)
                              clear e6 e8 e10 e138 e139 e140 e141
                              refine J_seq (fun σ w => vS (σ 6) fun x6A x6n x6c => vS (σ 8) fun x8A x8n x8c => vS (σ 10) fun x10A x10n x10c => vS (σ 138) fun x138A x138n x138c => vI .i64 (σ 139) fun x139 => vI .i64 (σ 140) fun x140 => law13_SlideKeeps.p26 (law13_SlideKeeps.l3 K k3) K x6A x6n x6c x8A x8n x8c x10A x10n x10c x138A x138n x138c x139 x140 w) ?_ ?_
                              ·
                                exact sh_sound _ _ _ _ (Eq.mp (by kernel_rfl) h)
                              · intro σ w h
                                obtain ⟨x6A, x6n, x6c, e6, h⟩ := vS_elim h
                                obtain ⟨x8A, x8n, x8c, e8, h⟩ := vS_elim h
                                obtain ⟨x10A, x10n, x10c, e10, h⟩ := vS_elim h
                                obtain ⟨x138A, x138n, x138c, e138, h⟩ := vS_elim h
                                obtain ⟨x139, e139, h⟩ := vI_elim h
                                obtain ⟨x140, e140, h⟩ := vI_elim h
                                refine J.sub ?_ (((((((Sub.base _).upd e6).upd e8).upd e10).upd e138).upd e139).upd e140)
                                clear e6 e8 e10 e138 e139 e140
                                refine J_seq (fun σ w => vS (σ 6) fun x6A x6n x6c => vS (σ 8) fun x8A x8n x8c => vS (σ 10) fun x10A x10n x10c => vS (σ 138) fun x138A x138n x138c => vI .i64 (σ 139) fun x139 => vI .i64 (σ 140) fun x140 => law13_SlideKeeps.p31 (law13_SlideKeeps.l3 K k3) K x6A x6n x6c x8A x8n x8c x10A x10n x10c x138A x138n x138c x139 x140 w) ?_ ?_
                                ·
                                  refine J_block ?_
                                  refine J_seq (fun σ w => vS (σ 6) fun x6A x6n x6c => vS (σ 8) fun x8A x8n x8c => vS (σ 10) fun x10A x10n x10c => vI .i64 (σ 16) fun x16 => vPa (σ 17) fun x17 => vS (σ 138) fun x138A x138n x138c => vI .i64 (σ 139) fun x139 => vI .i64 (σ 140) fun x140 => law13_SlideKeeps.p27 (law13_SlideKeeps.l3 K k3) K x6A x6n x6c x8A x8n x8c x10A x10n x10c x16 x17 x138A x138n x138c x139 x140 w) ?_ ?_
                                  ·
                                    exact sh_sound _ _ _ _ (Eq.mp (by kernel_rfl) h)
                                  · intro σ w h
                                    obtain ⟨x6A, x6n, x6c, e6, h⟩ := vS_elim h
                                    obtain ⟨x8A, x8n, x8c, e8, h⟩ := vS_elim h
                                    obtain ⟨x10A, x10n, x10c, e10, h⟩ := vS_elim h
                                    obtain ⟨x16, e16, h⟩ := vI_elim h
                                    obtain ⟨x17, e17, h⟩ := vPa_elim h
                                    obtain ⟨x138A, x138n, x138c, e138, h⟩ := vS_elim h
                                    obtain ⟨x139, e139, h⟩ := vI_elim h
                                    obtain ⟨x140, e140, h⟩ := vI_elim h
                                    refine J.sub ?_ (((((((((Sub.base _).upd e6).upd e8).upd e10).upd e16).upd e17).upd e138).upd e139).upd e140)
                                    clear e6 e8 e10 e16 e17 e138 e139 e140
                                    refine J_seq (fun σ w => vS (σ 6) fun x6A x6n x6c => vS (σ 8) fun x8A x8n x8c => vS (σ 10) fun x10A x10n x10c => vI .i64 (σ 16) fun x16 => vPa (σ 17) fun x17 => vS (σ 138) fun x138A x138n x138c => vI .i64 (σ 139) fun x139 => vI .i64 (σ 140) fun x140 => law13_SlideKeeps.p29 (law13_SlideKeeps.l3 K k3) K x6A x6n x6c x8A x8n x8c x10A x10n x10c x16 x17 x138A x138n x138c x139 x140 w) ?_ ?_
                                    ·
                                      refine J_seq (fun σ w => vS (σ 6) fun x6A x6n x6c => vS (σ 8) fun x8A x8n x8c => vS (σ 10) fun x10A x10n x10c => vI .i64 (σ 16) fun x16 => vPa (σ 17) fun x17 => vS (σ 138) fun x138A x138n x138c => vI .i64 (σ 139) fun x139 => vI .i64 (σ 140) fun x140 => vB (σ 179) fun x179 => law13_SlideKeeps.p28 (law13_SlideKeeps.l3 K k3) K x6A x6n x6c x8A x8n x8c x10A x10n x10c x16 x17 x138A x138n x138c x139 x140 x179 w) ?_ ?_
                                      ·
                                        exact J_held [] [(0, 0), (2, 0), (3, 0), (4, 0), (5, 0), (1, 1), (6, 1), (7, 0), (8, 0), (9, 0), (10, 0), (11, 0), (12, 0), (14, 0), (16, 0), (13, 1), (17, 1), (15, 2), (18, 0), (19, 0), (20, 0), (21, 0), (22, 1), (23, 0), (24, 0), (25, 0), (26, 0), (28, 0), (29, 0), (30, 0), (27, 1), (31, 1), (32, 0), (33, 0), (34, 0)] (by kernel_rfl) (Eq.mp (by kernel_rfl) h)
                                      · intro σ w h
                                        obtain ⟨x6A, x6n, x6c, e6, h⟩ := vS_elim h
                                        obtain ⟨x8A, x8n, x8c, e8, h⟩ := vS_elim h
                                        obtain ⟨x10A, x10n, x10c, e10, h⟩ := vS_elim h
                                        obtain ⟨x16, e16, h⟩ := vI_elim h
                                        obtain ⟨x17, e17, h⟩ := vPa_elim h
                                        obtain ⟨x138A, x138n, x138c, e138, h⟩ := vS_elim h
                                        obtain ⟨x139, e139, h⟩ := vI_elim h
                                        obtain ⟨x140, e140, h⟩ := vI_elim h
                                        obtain ⟨x179, e179, h⟩ := vB_elim h
                                        refine J.sub ?_ ((((((((((Sub.base _).upd e6).upd e8).upd e10).upd e16).upd e17).upd e138).upd e139).upd e140).upd e179)
                                        clear e6 e8 e10 e16 e17 e138 e139 e140 e179
                                        exact sh_sound _ _ _ _ (Eq.mp (by kernel_rfl) h)
                                    · intro σ w h
                                      obtain ⟨x6A, x6n, x6c, e6, h⟩ := vS_elim h
                                      obtain ⟨x8A, x8n, x8c, e8, h⟩ := vS_elim h
                                      obtain ⟨x10A, x10n, x10c, e10, h⟩ := vS_elim h
                                      obtain ⟨x16, e16, h⟩ := vI_elim h
                                      obtain ⟨x17, e17, h⟩ := vPa_elim h
                                      obtain ⟨x138A, x138n, x138c, e138, h⟩ := vS_elim h
                                      obtain ⟨x139, e139, h⟩ := vI_elim h
                                      obtain ⟨x140, e140, h⟩ := vI_elim h
                                      refine J.sub ?_ (((((((((Sub.base _).upd e6).upd e8).upd e10).upd e16).upd e17).upd e138).upd e139).upd e140)
                                      clear e6 e8 e10 e16 e17 e138 e139 e140
                                      refine J_seq (fun σ w => vS (σ 6) fun x6A x6n x6c => vS (σ 8) fun x8A x8n x8c => vS (σ 10) fun x10A x10n x10c => vI .i64 (σ 16) fun x16 => vPa (σ 17) fun x17 => vI .i64 (σ 18) fun x18 => vS (σ 138) fun x138A x138n x138c => vI .i64 (σ 139) fun x139 => vI .i64 (σ 140) fun x140 => law13_SlideKeeps.p30 (law13_SlideKeeps.l3 K k3) K x6A x6n x6c x8A x8n x8c x10A x10n x10c x16 x17 x18 x138A x138n x138c x139 x140 w) ?_ ?_
                                      ·
                                        exact sh_sound _ _ _ _ (Eq.mp (by kernel_rfl) h)
                                      · intro σ w h
                                        obtain ⟨x6A, x6n, x6c, e6, h⟩ := vS_elim h
                                        obtain ⟨x8A, x8n, x8c, e8, h⟩ := vS_elim h
                                        obtain ⟨x10A, x10n, x10c, e10, h⟩ := vS_elim h
                                        obtain ⟨x16, e16, h⟩ := vI_elim h
                                        obtain ⟨x17, e17, h⟩ := vPa_elim h
                                        obtain ⟨x18, e18, h⟩ := vI_elim h
                                        obtain ⟨x138A, x138n, x138c, e138, h⟩ := vS_elim h
                                        obtain ⟨x139, e139, h⟩ := vI_elim h
                                        obtain ⟨x140, e140, h⟩ := vI_elim h
                                        refine J.sub ?_ ((((((((((Sub.base _).upd e6).upd e8).upd e10).upd e16).upd e17).upd e18).upd e138).upd e139).upd e140)
                                        clear e6 e8 e10 e16 e17 e18 e138 e139 e140
                                        refine J_block ?_
                                        refine J_loop (fun k σ w => vS (σ 6) fun x6A x6n x6c => vS (σ 8) fun x8A x8n x8c => vS (σ 10) fun x10A x10n x10c => vI .i64 (σ 16) fun x16 => vPa (σ 17) fun x17 => vI .i64 (σ 18) fun x18 => vS (σ 138) fun x138A x138n x138c => vI .i64 (σ 139) fun x139 => vI .i64 (σ 140) fun x140 => law13_SlideKeeps.l4 (law13_SlideKeeps.l3 K k3) K k x6A x6n x6c x8A x8n x8c x10A x10n x10c x16 x17 x18 x138A x138n x138c x139 x140 w) (Eq.mp (by kernel_rfl) h) ?_ ?_
                                        · intro σ w h
                                          obtain ⟨x6A, x6n, x6c, e6, h⟩ := vS_elim h
                                          obtain ⟨x8A, x8n, x8c, e8, h⟩ := vS_elim h
                                          obtain ⟨x10A, x10n, x10c, e10, h⟩ := vS_elim h
                                          obtain ⟨x16, e16, h⟩ := vI_elim h
                                          obtain ⟨x17, e17, h⟩ := vPa_elim h
                                          obtain ⟨x18, e18, h⟩ := vI_elim h
                                          obtain ⟨x138A, x138n, x138c, e138, h⟩ := vS_elim h
                                          obtain ⟨x139, e139, h⟩ := vI_elim h
                                          obtain ⟨x140, e140, h⟩ := vI_elim h
                                          exact h
                                        · intro k4 σ w h
                                          obtain ⟨x6A, x6n, x6c, e6, h⟩ := vS_elim h
                                          obtain ⟨x8A, x8n, x8c, e8, h⟩ := vS_elim h
                                          obtain ⟨x10A, x10n, x10c, e10, h⟩ := vS_elim h
                                          obtain ⟨x16, e16, h⟩ := vI_elim h
                                          obtain ⟨x17, e17, h⟩ := vPa_elim h
                                          obtain ⟨x18, e18, h⟩ := vI_elim h
                                          obtain ⟨x138A, x138n, x138c, e138, h⟩ := vS_elim h
                                          obtain ⟨x139, e139, h⟩ := vI_elim h
                                          obtain ⟨x140, e140, h⟩ := vI_elim h
                                          refine J.sub ?_ ((((((((((Sub.base _).upd e6).upd e8).upd e10).upd e16).upd e17).upd e18).upd e138).upd e139).upd e140)
                                          clear e6 e8 e10 e16 e17 e18 e138 e139 e140
                                          exact sh_sound _ _ _ _ (Eq.mp (by kernel_rfl) h)
                                · intro σ w h
                                  obtain ⟨x6A, x6n, x6c, e6, h⟩ := vS_elim h
                                  obtain ⟨x8A, x8n, x8c, e8, h⟩ := vS_elim h
                                  obtain ⟨x10A, x10n, x10c, e10, h⟩ := vS_elim h
                                  obtain ⟨x138A, x138n, x138c, e138, h⟩ := vS_elim h
                                  obtain ⟨x139, e139, h⟩ := vI_elim h
                                  obtain ⟨x140, e140, h⟩ := vI_elim h
                                  refine J.sub ?_ (((((((Sub.base _).upd e6).upd e8).upd e10).upd e138).upd e139).upd e140)
                                  clear e6 e8 e10 e138 e139 e140
                                  exact sh_sound _ _ _ _ (Eq.mp (by kernel_rfl) h)
                      · intro σ w h
                        refine J.sub ?_ (Sub.base _)
                        exact sh_sound _ _ _ _ (Eq.mp (by kernel_rfl) h)

/-! ### hayloft/hayloftlaw13.SlideAgain: function 6 -/
abbrev law13_SlideAgain.p10 (L0 : Int → Option Addr → Nat → Nat → Option Addr → Nat → Nat → Int → Int → World → Prop) (K : Value → World → Prop) (x0 : Int) (x5A : Option Addr) (x5n : Nat) (x5c : Nat) (x31A : Option Addr) (x31n : Nat) (x31c : Nat) (x32 : Int) (x33 : Int) (w : World) : Prop :=
  L0 x0 x5A x5n x5c x31A x31n x31c x32 (IntKind.wrap .i64 (x33 + (1 : Int))) w
abbrev law13_SlideAgain.p9 (L0 : Int → Option Addr → Nat → Nat → Option Addr → Nat → Nat → Int → Int → World → Prop) (K : Value → World → Prop) (x0 : Int) (x5A : Option Addr) (x5n : Nat) (x5c : Nat) (x31A : Option Addr) (x31n : Nat) (x31c : Nat) (x32 : Int) (x33 : Int) (x51 : Bool) (w : World) : Prop :=
  condP x51 (K (.bool false) w) (law13_SlideAgain.p10 L0 K x0 x5A x5n x5c x31A x31n x31c x32 x33 w)
abbrev law13_SlideAgain.p8 (L0 : Int → Option Addr → Nat → Nat → Option Addr → Nat → Nat → Int → Int → World → Prop) (K : Value → World → Prop) (x0 : Int) (x5A : Option Addr) (x5n : Nat) (x5c : Nat) (x9 : Addr) (x31A : Option Addr) (x31n : Nat) (x31c : Nat) (x32 : Int) (x33 : Int) (w : World) : Prop :=
  ∃ (n24 : Int), w.cell? (x9.add 1) = some (.int .i64 n24) ∧ ∃ (n25 : Int), w.cell? x9 = some (.int .i64 n25) ∧ condP (decide (n25 ≤ n24)) (law13_SlideAgain.p9 L0 K x0 x5A x5n x5c x31A x31n x31c x32 x33 true w) (∃ (n26 : Int), w.cell? (x9.add 1) = some (.int .i64 n26) ∧ condP (decide (n26 < (0 : Int))) (law13_SlideAgain.p9 L0 K x0 x5A x5n x5c x31A x31n x31c x32 x33 true w) (∃ (n27 : Int), w.cell? (x9.add 2) = some (.int .i64 n27) ∧ law13_SlideAgain.p9 L0 K x0 x5A x5n x5c x31A x31n x31c x32 x33 (decide (n27 < (1 : Int))) w))
abbrev law13_SlideAgain.p7 (L0 : Int → Option Addr → Nat → Nat → Option Addr → Nat → Nat → Int → Int → World → Prop) (K : Value → World → Prop) (x0 : Int) (x5A : Option Addr) (x5n : Nat) (x5c : Nat) (x31A : Option Addr) (x31n : Nat) (x31c : Nat) (x32 : Int) (x33 : Int) (w : World) : Prop :=
  (0 ≤ x33 ∧ x33 < ((x31n : Nat) : Int)) ∧ ∃ (a16 : Addr), x31A = some a16 ∧ ∃ (n17 : Int), w.cell? (a16.add (x33.toNat * 3)) = some (.int .i64 n17) ∧ ∃ (n18 : Int), w.cell? ((a16.add (x33.toNat * 3)).add 1) = some (.int .i64 n18) ∧ ∃ (n19 : Int), w.cell? ((a16.add (x33.toNat * 3)).add 2) = some (.int .i64 n19) ∧ wlet (w.alloc (.cells #[.int .i64 0, .int .i64 0, .int .i64 0] 25)) fun w20 => canStore w20 (⟨w.heap.size, 0, none⟩) ∧ wlet (w20.setCell (⟨w.heap.size, 0, none⟩) (.int .i64 n17)) fun w21 => canStore w21 (⟨w.heap.size, 1, none⟩) ∧ wlet (w21.setCell (⟨w.heap.size, 1, none⟩) (.int .i64 n18)) fun w22 => canStore w22 (⟨w.heap.size, 2, none⟩) ∧ wlet (w22.setCell (⟨w.heap.size, 2, none⟩) (.int .i64 n19)) fun w23 => law13_SlideAgain.p8 L0 K x0 x5A x5n x5c (⟨w.heap.size, 0, none⟩) x31A x31n x31c x32 x33 w23
abbrev law13_SlideAgain.p13 (K : Value → World → Prop) (x4 : Bool) (w : World) : Prop :=
  K (.bool x4) w
abbrev law13_SlideAgain.p12 (K : Value → World → Prop) (x5A : Option Addr) (x5n : Nat) (x5c : Nat) (x10A : Option Addr) (x10n : Nat) (x10c : Nat) (x11A : Option Addr) (x11n : Nat) (x11c : Nat) (x12 : Int) (w : World) : Prop :=
  condP (x12 == (0 : Int)) (condP (((x11n : Nat) : Int) == (0 : Int)) (CallsE Tryd.prog 15 #[.slice x10A x10n x10c, .slice x5A x5n x5c] w (fun v37 w38 => ∃ (b39 : Bool), v37 = .bool b39 ∧ law13_SlideAgain.p13 K b39 w38)) (law13_SlideAgain.p13 K false w)) (law13_SlideAgain.p13 K false w)
abbrev law13_SlideAgain.p11 (K : Value → World → Prop) (x0 : Int) (x5A : Option Addr) (x5n : Nat) (x5c : Nat) (w : World) : Prop :=
  CallsE Tryd.prog 12 #[.int .i64 x0, .slice x5A x5n x5c] w (fun v28 w29 => ∃ (A30 : Option Addr) (m31 : Nat) (c32 : Nat) (A33 : Option Addr) (m34 : Nat) (c35 : Nat) (n36 : Int), v28 = .tuple #[.slice A30 m31 c32, .slice A33 m34 c35, .int .i64 n36] ∧ law13_SlideAgain.p12 K x5A x5n x5c A30 m31 c32 A33 m34 c35 n36 w29)
abbrev law13_SlideAgain.p6 (L0 : Int → Option Addr → Nat → Nat → Option Addr → Nat → Nat → Int → Int → World → Prop) (K : Value → World → Prop) (x0 : Int) (x5A : Option Addr) (x5n : Nat) (x5c : Nat) (x31A : Option Addr) (x31n : Nat) (x31c : Nat) (x32 : Int) (x33 : Int) (x34 : Bool) (w : World) : Prop :=
  condP x34 (law13_SlideAgain.p7 L0 K x0 x5A x5n x5c x31A x31n x31c x32 x33 w) (law13_SlideAgain.p11 K x0 x5A x5n x5c w)
abbrev law13_SlideAgain.b0 (L0 : Int → Option Addr → Nat → Nat → Option Addr → Nat → Nat → Int → Int → World → Prop) (K : Value → World → Prop) (x0 : Int) (x5A : Option Addr) (x5n : Nat) (x5c : Nat) (x31A : Option Addr) (x31n : Nat) (x31c : Nat) (x32 : Int) (x33 : Int) (w : World) : Prop :=
  law13_SlideAgain.p6 L0 K x0 x5A x5n x5c x31A x31n x31c x32 x33 (decide (x33 < x32)) w
def law13_SlideAgain.l0 (K : Value → World → Prop) (k : Nat) : Int → Option Addr → Nat → Nat → Option Addr → Nat → Nat → Int → Int → World → Prop :=
  Nat.rec (motive := fun _ => Int → Option Addr → Nat → Nat → Option Addr → Nat → Nat → Int → Int → World → Prop) (fun _ _ _ _ _ _ _ _ _ _ => False) (fun _ ih => law13_SlideAgain.b0 ih K) k
theorem law13_SlideAgain.l0_succ (K : Value → World → Prop) (k : Nat) (x0 : Int) (x5A : Option Addr) (x5n : Nat) (x5c : Nat) (x31A : Option Addr) (x31n : Nat) (x31c : Nat) (x32 : Int) (x33 : Int) (w : World) : law13_SlideAgain.l0 K (k + 1) x0 x5A x5n x5c x31A x31n x31c x32 x33 w = law13_SlideAgain.b0 (law13_SlideAgain.l0 K k) K x0 x5A x5n x5c x31A x31n x31c x32 x33 w := rfl
abbrev law13_SlideAgain.p5 (K : Value → World → Prop) (x0 : Int) (x5A : Option Addr) (x5n : Nat) (x5c : Nat) (x31A : Option Addr) (x31n : Nat) (x31c : Nat) (x32 : Int) (x33 : Int) (w : World) : Prop :=
  ∃ k, law13_SlideAgain.l0 K k x0 x5A x5n x5c x31A x31n x31c x32 x33 w
abbrev law13_SlideAgain.p4 (K : Value → World → Prop) (x0 : Int) (x5A : Option Addr) (x5n : Nat) (x5c : Nat) (x6A : Option Addr) (x6n : Nat) (x6c : Nat) (w : World) : Prop :=
  law13_SlideAgain.p5 K x0 x5A x5n x5c x6A x6n x6c ((x6n : Nat) : Int) 0 w
abbrev law13_SlideAgain.p3 (K : Value → World → Prop) (x0 : Int) (x1A : Option Addr) (x1n : Nat) (x1c : Nat) (x5A : Option Addr) (x5n : Nat) (x5c : Nat) (x6A : Option Addr) (x6n : Nat) (x6c : Nat) (x7 : Int) (w : World) : Prop :=
  condP (x7 != (0 : Int)) (CallsE Tryd.prog 14 #[.int .i64 x0, .slice x1A x1n x1c] w (fun v13 w14 => ∃ (b15 : Bool), v13 = .bool b15 ∧ K (.bool (!b15)) w14)) (law13_SlideAgain.p4 K x0 x5A x5n x5c x6A x6n x6c w)
abbrev law13_SlideAgain.p2 (K : Value → World → Prop) (x0 : Int) (x1A : Option Addr) (x1n : Nat) (x1c : Nat) (w : World) : Prop :=
  CallsE Tryd.prog 12 #[.int .i64 x0, .slice x1A x1n x1c] w (fun v4 w5 => ∃ (A6 : Option Addr) (m7 : Nat) (c8 : Nat) (A9 : Option Addr) (m10 : Nat) (c11 : Nat) (n12 : Int), v4 = .tuple #[.slice A6 m7 c8, .slice A9 m10 c11, .int .i64 n12] ∧ law13_SlideAgain.p3 K x0 x1A x1n x1c A6 m7 c8 A9 m10 c11 n12 w5)
abbrev law13_SlideAgain.p1 (K : Value → World → Prop) (x0 : Int) (x1A : Option Addr) (x1n : Nat) (x1c : Nat) (w : World) : Prop :=
  condP (decide ((300 : Int) < ((x1n : Nat) : Int))) (K (.bool true) w) (law13_SlideAgain.p2 K x0 x1A x1n x1c w)
abbrev law13_SlideAgain.p0 (K : Value → World → Prop) (x0 : Int) (x1A : Option Addr) (x1n : Nat) (x1c : Nat) (w : World) : Prop :=
  CallsE Tryd.prog 8 #[] w (fun v1 w2 => ∃ (b3 : Bool), v1 = .bool b3 ∧ condP (!b3) (K (.bool false) w2) (law13_SlideAgain.p1 K x0 x1A x1n x1c w2))
abbrev law13_SlideAgain.F (q0 : Int) (q1A : Option Addr) (q1n : Nat) (q1c : Nat) (K : Value → World → Prop) (w : World) : Prop :=
  law13_SlideAgain.p0 K q0 q1A q1n q1c w
theorem law13_SlideAgain.ok {q0 : Int} {q1A : Option Addr} {q1n : Nat} {q1c : Nat} {K : Value → World → Prop} {w : World} (h : law13_SlideAgain.F q0 q1A q1n q1c K w) :
    CallsE Tryd.prog 6 #[.int .i64 q0, .slice q1A q1n q1c] w K := by
  refine calls_of_J (n := 72) (rs := [.tmp 4]) Tryd.func6 rfl rfl rfl rfl ?_
  refine J_seq (fun σ w => vI .i64 (σ 0) fun x0 => vS (σ 1) fun x1A x1n x1c => law13_SlideAgain.p0 K x0 x1A x1n x1c w) ?_ ?_
  ·
    exact sh_sound _ _ _ _ (Eq.mp (by kernel_rfl) h)
  · intro σ w h
    obtain ⟨x0, e0, h⟩ := vI_elim h
    obtain ⟨x1A, x1n, x1c, e1, h⟩ := vS_elim h
    refine J.sub ?_ (((Sub.base _).upd e0).upd e1)
    clear e0 e1
    refine J_seq (fun σ w => vI .i64 (σ 0) fun x0 => vS (σ 1) fun x1A x1n x1c => law13_SlideAgain.p1 K x0 x1A x1n x1c w) ?_ ?_
    ·
      exact sh_sound _ _ _ _ (Eq.mp (by kernel_rfl) h)
    · intro σ w h
      obtain ⟨x0, e0, h⟩ := vI_elim h
      obtain ⟨x1A, x1n, x1c, e1, h⟩ := vS_elim h
      refine J.sub ?_ (((Sub.base _).upd e0).upd e1)
      clear e0 e1
      refine J_seq (fun σ w => vI .i64 (σ 0) fun x0 => vS (σ 1) fun x1A x1n x1c => law13_SlideAgain.p2 K x0 x1A x1n x1c w) ?_ ?_
      ·
        exact sh_sound _ _ _ _ (Eq.mp (by kernel_rfl) h)
      · intro σ w h
        obtain ⟨x0, e0, h⟩ := vI_elim h
        obtain ⟨x1A, x1n, x1c, e1, h⟩ := vS_elim h
        refine J.sub ?_ (((Sub.base _).upd e0).upd e1)
        clear e0 e1
        refine J_seq (fun σ w => vI .i64 (σ 0) fun x0 => vS (σ 1) fun x1A x1n x1c => vS (σ 5) fun x5A x5n x5c => vS (σ 6) fun x6A x6n x6c => vI .i64 (σ 7) fun x7 => law13_SlideAgain.p3 K x0 x1A x1n x1c x5A x5n x5c x6A x6n x6c x7 w) ?_ ?_
        ·
          exact sh_sound _ _ _ _ (Eq.mp (by kernel_rfl) h)
        · intro σ w h
          obtain ⟨x0, e0, h⟩ := vI_elim h
          obtain ⟨x1A, x1n, x1c, e1, h⟩ := vS_elim h
          obtain ⟨x5A, x5n, x5c, e5, h⟩ := vS_elim h
          obtain ⟨x6A, x6n, x6c, e6, h⟩ := vS_elim h
          obtain ⟨x7, e7, h⟩ := vI_elim h
          refine J.sub ?_ ((((((Sub.base _).upd e0).upd e1).upd e5).upd e6).upd e7)
          clear e0 e1 e5 e6 e7
          refine J_seq (fun σ w => vI .i64 (σ 0) fun x0 => vS (σ 5) fun x5A x5n x5c => vS (σ 6) fun x6A x6n x6c => law13_SlideAgain.p4 K x0 x5A x5n x5c x6A x6n x6c w) ?_ ?_
          ·
            exact sh_sound _ _ _ _ (Eq.mp (by kernel_rfl) h)
          · intro σ w h
            obtain ⟨x0, e0, h⟩ := vI_elim h
            obtain ⟨x5A, x5n, x5c, e5, h⟩ := vS_elim h
            obtain ⟨x6A, x6n, x6c, e6, h⟩ := vS_elim h
            refine J.sub ?_ ((((Sub.base _).upd e0).upd e5).upd e6)
            clear e0 e5 e6
            refine J_seq (fun σ w => vI .i64 (σ 0) fun x0 => vS (σ 5) fun x5A x5n x5c => law13_SlideAgain.p11 K x0 x5A x5n x5c w) ?_ ?_
            ·
              refine J_seq (fun σ w => vI .i64 (σ 0) fun x0 => vS (σ 5) fun x5A x5n x5c => vS (σ 31) fun x31A x31n x31c => vI .i64 (σ 32) fun x32 => vI .i64 (σ 33) fun x33 => law13_SlideAgain.p5 K x0 x5A x5n x5c x31A x31n x31c x32 x33 w) ?_ ?_
              ·
                exact sh_sound _ _ _ _ (Eq.mp (by kernel_rfl) h)
              · intro σ w h
                obtain ⟨x0, e0, h⟩ := vI_elim h
                obtain ⟨x5A, x5n, x5c, e5, h⟩ := vS_elim h
                obtain ⟨x31A, x31n, x31c, e31, h⟩ := vS_elim h
                obtain ⟨x32, e32, h⟩ := vI_elim h
                obtain ⟨x33, e33, h⟩ := vI_elim h
                refine J.sub ?_ ((((((Sub.base _).upd e0).upd e5).upd e31).upd e32).upd e33)
                clear e0 e5 e31 e32 e33
                refine J_block ?_
                refine J_loop (fun k σ w => vI .i64 (σ 0) fun x0 => vS (σ 5) fun x5A x5n x5c => vS (σ 31) fun x31A x31n x31c => vI .i64 (σ 32) fun x32 => vI .i64 (σ 33) fun x33 => law13_SlideAgain.l0 K k x0 x5A x5n x5c x31A x31n x31c x32 x33 w) (Eq.mp (by kernel_rfl) h) ?_ ?_
                · intro σ w h
                  obtain ⟨x0, e0, h⟩ := vI_elim h
                  obtain ⟨x5A, x5n, x5c, e5, h⟩ := vS_elim h
                  obtain ⟨x31A, x31n, x31c, e31, h⟩ := vS_elim h
                  obtain ⟨x32, e32, h⟩ := vI_elim h
                  obtain ⟨x33, e33, h⟩ := vI_elim h
                  exact h
                · intro k0 σ w h
                  obtain ⟨x0, e0, h⟩ := vI_elim h
                  obtain ⟨x5A, x5n, x5c, e5, h⟩ := vS_elim h
                  obtain ⟨x31A, x31n, x31c, e31, h⟩ := vS_elim h
                  obtain ⟨x32, e32, h⟩ := vI_elim h
                  obtain ⟨x33, e33, h⟩ := vI_elim h
                  refine J.sub ?_ ((((((Sub.base _).upd e0).upd e5).upd e31).upd e32).upd e33)
                  clear e0 e5 e31 e32 e33
                  refine J_seq (fun σ w => vI .i64 (σ 0) fun x0 => vS (σ 5) fun x5A x5n x5c => vS (σ 31) fun x31A x31n x31c => vI .i64 (σ 32) fun x32 => vI .i64 (σ 33) fun x33 => vB (σ 34) fun x34 => law13_SlideAgain.p6 (law13_SlideAgain.l0 K k0) K x0 x5A x5n x5c x31A x31n x31c x32 x33 x34 w) ?_ ?_
                  ·
                    exact sh_sound _ _ _ _ (Eq.mp (by kernel_rfl) h)
                  · intro σ w h
                    obtain ⟨x0, e0, h⟩ := vI_elim h
                    obtain ⟨x5A, x5n, x5c, e5, h⟩ := vS_elim h
                    obtain ⟨x31A, x31n, x31c, e31, h⟩ := vS_elim h
                    obtain ⟨x32, e32, h⟩ := vI_elim h
                    obtain ⟨x33, e33, h⟩ := vI_elim h
                    obtain ⟨x34, e34, h⟩ := vB_elim h
                    refine J.sub ?_ (((((((Sub.base _).upd e0).upd e5).upd e31).upd e32).upd e33).upd e34)
                    clear e0 e5 e31 e32 e33 e34
                    refine J_seq (fun σ w => vI .i64 (σ 0) fun x0 => vS (σ 5) fun x5A x5n x5c => vS (σ 31) fun x31A x31n x31c => vI .i64 (σ 32) fun x32 => vI .i64 (σ 33) fun x33 => law13_SlideAgain.p7 (law13_SlideAgain.l0 K k0) K x0 x5A x5n x5c x31A x31n x31c x32 x33 w) ?_ ?_
                    ·
                      exact sh_sound _ _ _ _ (Eq.mp (by kernel_rfl) h)
                    · intro σ w h
                      obtain ⟨x0, e0, h⟩ := vI_elim h
                      obtain ⟨x5A, x5n, x5c, e5, h⟩ := vS_elim h
                      obtain ⟨x31A, x31n, x31c, e31, h⟩ := vS_elim h
                      obtain ⟨x32, e32, h⟩ := vI_elim h
                      obtain ⟨x33, e33, h⟩ := vI_elim h
                      refine J.sub ?_ ((((((Sub.base _).upd e0).upd e5).upd e31).upd e32).upd e33)
                      clear e0 e5 e31 e32 e33
                      refine J_seq (fun σ w => vI .i64 (σ 0) fun x0 => vS (σ 5) fun x5A x5n x5c => vS (σ 31) fun x31A x31n x31c => vI .i64 (σ 32) fun x32 => vI .i64 (σ 33) fun x33 => law13_SlideAgain.p10 (law13_SlideAgain.l0 K k0) K x0 x5A x5n x5c x31A x31n x31c x32 x33 w) ?_ ?_
                      ·
                        refine J_block ?_
                        refine J_seq (fun σ w => vI .i64 (σ 0) fun x0 => vS (σ 5) fun x5A x5n x5c => vPa (σ 9) fun x9 => vS (σ 31) fun x31A x31n x31c => vI .i64 (σ 32) fun x32 => vI .i64 (σ 33) fun x33 => law13_SlideAgain.p8 (law13_SlideAgain.l0 K k0) K x0 x5A x5n x5c x9 x31A x31n x31c x32 x33 w) ?_ ?_
                        ·
                          exact sh_sound _ _ _ _ (Eq.mp (by kernel_rfl) h)
                        · intro σ w h
                          obtain ⟨x0, e0, h⟩ := vI_elim h
                          obtain ⟨x5A, x5n, x5c, e5, h⟩ := vS_elim h
                          obtain ⟨x9, e9, h⟩ := vPa_elim h
                          obtain ⟨x31A, x31n, x31c, e31, h⟩ := vS_elim h
                          obtain ⟨x32, e32, h⟩ := vI_elim h
                          obtain ⟨x33, e33, h⟩ := vI_elim h
                          refine J.sub ?_ (((((((Sub.base _).upd e0).upd e5).upd e9).upd e31).upd e32).upd e33)
                          clear e0 e5 e9 e31 e32 e33
                          refine J_seq (fun σ w => vI .i64 (σ 0) fun x0 => vS (σ 5) fun x5A x5n x5c => vS (σ 31) fun x31A x31n x31c => vI .i64 (σ 32) fun x32 => vI .i64 (σ 33) fun x33 => vB (σ 51) fun x51 => law13_SlideAgain.p9 (law13_SlideAgain.l0 K k0) K x0 x5A x5n x5c x31A x31n x31c x32 x33 x51 w) ?_ ?_
                          ·
                            exact sh_sound _ _ _ _ (Eq.mp (by kernel_rfl) h)
                          · intro σ w h
                            obtain ⟨x0, e0, h⟩ := vI_elim h
                            obtain ⟨x5A, x5n, x5c, e5, h⟩ := vS_elim h
                            obtain ⟨x31A, x31n, x31c, e31, h⟩ := vS_elim h
                            obtain ⟨x32, e32, h⟩ := vI_elim h
                            obtain ⟨x33, e33, h⟩ := vI_elim h
                            obtain ⟨x51, e51, h⟩ := vB_elim h
                            refine J.sub ?_ (((((((Sub.base _).upd e0).upd e5).upd e31).upd e32).upd e33).upd e51)
                            clear e0 e5 e31 e32 e33 e51
                            exact sh_sound _ _ _ _ (Eq.mp (by kernel_rfl) h)
                      · intro σ w h
                        obtain ⟨x0, e0, h⟩ := vI_elim h
                        obtain ⟨x5A, x5n, x5c, e5, h⟩ := vS_elim h
                        obtain ⟨x31A, x31n, x31c, e31, h⟩ := vS_elim h
                        obtain ⟨x32, e32, h⟩ := vI_elim h
                        obtain ⟨x33, e33, h⟩ := vI_elim h
                        refine J.sub ?_ ((((((Sub.base _).upd e0).upd e5).upd e31).upd e32).upd e33)
                        clear e0 e5 e31 e32 e33
                        exact sh_sound _ _ _ _ (Eq.mp (by kernel_rfl) h)
            · intro σ w h
              obtain ⟨x0, e0, h⟩ := vI_elim h
              obtain ⟨x5A, x5n, x5c, e5, h⟩ := vS_elim h
              refine J.sub ?_ (((Sub.base _).upd e0).upd e5)
              clear e0 e5
              refine J_seq (fun σ w => vS (σ 5) fun x5A x5n x5c => vS (σ 10) fun x10A x10n x10c => vS (σ 11) fun x11A x11n x11c => vI .i64 (σ 12) fun x12 => law13_SlideAgain.p12 K x5A x5n x5c x10A x10n x10c x11A x11n x11c x12 w) ?_ ?_
              ·
                exact sh_sound _ _ _ _ (Eq.mp (by kernel_rfl) h)
              · intro σ w h
                obtain ⟨x5A, x5n, x5c, e5, h⟩ := vS_elim h
                obtain ⟨x10A, x10n, x10c, e10, h⟩ := vS_elim h
                obtain ⟨x11A, x11n, x11c, e11, h⟩ := vS_elim h
                obtain ⟨x12, e12, h⟩ := vI_elim h
                refine J.sub ?_ (((((Sub.base _).upd e5).upd e10).upd e11).upd e12)
                clear e5 e10 e11 e12
                refine J_seq (fun σ w => vB (σ 4) fun x4 => law13_SlideAgain.p13 K x4 w) ?_ ?_
                ·
                  exact sh_sound _ _ _ _ (Eq.mp (by kernel_rfl) h)
                · intro σ w h
                  obtain ⟨x4, e4, h⟩ := vB_elim h
                  refine J.sub ?_ ((Sub.base _).upd e4)
                  clear e4
                  exact sh_sound _ _ _ _ (Eq.mp (by kernel_rfl) h)

/-! ### hayloft/hayloftlaw13.SlideTight: function 7 -/
abbrev law13_SlideTight.p13 (L1 : Int → Option Addr → Nat → Nat → Option Addr → Nat → Nat → Addr → Option Addr → Nat → Nat → Int → Int → Int → Int → World → Prop) (L0 : Int → Option Addr → Nat → Nat → Option Addr → Nat → Nat → Option Addr → Nat → Nat → Int → Int → World → Prop) (K : Value → World → Prop) (x0 : Int) (x5A : Option Addr) (x5n : Nat) (x5c : Nat) (x8A : Option Addr) (x8n : Nat) (x8c : Nat) (x10 : Addr) (x37A : Option Addr) (x37n : Nat) (x37c : Nat) (x38 : Int) (x39 : Int) (x45 : Int) (x46 : Int) (w : World) : Prop :=
  L1 x0 x5A x5n x5c x8A x8n x8c x10 x37A x37n x37c x38 x39 x45 (IntKind.wrap .i64 (x46 + (1 : Int))) w
abbrev law13_SlideTight.p12 (L1 : Int → Option Addr → Nat → Nat → Option Addr → Nat → Nat → Addr → Option Addr → Nat → Nat → Int → Int → Int → Int → World → Prop) (L0 : Int → Option Addr → Nat → Nat → Option Addr → Nat → Nat → Option Addr → Nat → Nat → Int → Int → World → Prop) (K : Value → World → Prop) (x0 : Int) (x5A : Option Addr) (x5n : Nat) (x5c : Nat) (x8A : Option Addr) (x8n : Nat) (x8c : Nat) (x10 : Addr) (x37A : Option Addr) (x37n : Nat) (x37c : Nat) (x38 : Int) (x39 : Int) (x45 : Int) (x46 : Int) (w : World) : Prop :=
  ∃ (S31 : Array Obj → Prop), S31 w.heap ∧ ∃ (n32 : Int), (∀ w' : World, S31 w'.heap → w'.cell? (x10.add 2) = some (.int .i64 n32)) ∧ ∃ (n33 : Int), (∀ w' : World, S31 w'.heap → w'.cell? (x10.add 1) = some (.int .i64 n33)) ∧ CallsE Tryd.prog 19 #[.int .i64 n33] w (fun v34 w35 => ∃ (n36 : Int), v34 = .int .i64 n36 ∧ S31 w35.heap ∧ wlet (w35.alloc (.cells #[.int .i64 (imax n32 n36)] 3)) fun w37 => S31 w37.heap ∧ SemJ Tryd.prog (Builtin.append_ #[44, 44] 44 #[.slice x8A x8n x8c, .slice (some ⟨w35.heap.size, 0, none⟩) 1 1]) (fun v38 w39 => ∃ (A40 : Option Addr) (m41 : Nat) (c42 : Nat), v38 = .slice A40 m41 c42 ∧ S31 w39.heap ∧ law13_SlideTight.p13 L1 L0 K x0 x5A x5n x5c A40 m41 c42 x10 x37A x37n x37c x38 x39 x45 x46 w39) w37)
abbrev law13_SlideTight.p14 (L0 : Int → Option Addr → Nat → Nat → Option Addr → Nat → Nat → Option Addr → Nat → Nat → Int → Int → World → Prop) (K : Value → World → Prop) (x0 : Int) (x5A : Option Addr) (x5n : Nat) (x5c : Nat) (x8A : Option Addr) (x8n : Nat) (x8c : Nat) (x37A : Option Addr) (x37n : Nat) (x37c : Nat) (x38 : Int) (x39 : Int) (w : World) : Prop :=
  L0 x0 x5A x5n x5c x8A x8n x8c x37A x37n x37c x38 (IntKind.wrap .i64 (x39 + (1 : Int))) w
abbrev law13_SlideTight.p11 (L1 : Int → Option Addr → Nat → Nat → Option Addr → Nat → Nat → Addr → Option Addr → Nat → Nat → Int → Int → Int → Int → World → Prop) (L0 : Int → Option Addr → Nat → Nat → Option Addr → Nat → Nat → Option Addr → Nat → Nat → Int → Int → World → Prop) (K : Value → World → Prop) (x0 : Int) (x5A : Option Addr) (x5n : Nat) (x5c : Nat) (x8A : Option Addr) (x8n : Nat) (x8c : Nat) (x10 : Addr) (x37A : Option Addr) (x37n : Nat) (x37c : Nat) (x38 : Int) (x39 : Int) (x45 : Int) (x46 : Int) (x47 : Bool) (w : World) : Prop :=
  condP x47 (law13_SlideTight.p12 L1 L0 K x0 x5A x5n x5c x8A x8n x8c x10 x37A x37n x37c x38 x39 x45 x46 w) (law13_SlideTight.p14 L0 K x0 x5A x5n x5c x8A x8n x8c x37A x37n x37c x38 x39 w)
abbrev law13_SlideTight.b1 (L1 : Int → Option Addr → Nat → Nat → Option Addr → Nat → Nat → Addr → Option Addr → Nat → Nat → Int → Int → Int → Int → World → Prop) (L0 : Int → Option Addr → Nat → Nat → Option Addr → Nat → Nat → Option Addr → Nat → Nat → Int → Int → World → Prop) (K : Value → World → Prop) (x0 : Int) (x5A : Option Addr) (x5n : Nat) (x5c : Nat) (x8A : Option Addr) (x8n : Nat) (x8c : Nat) (x10 : Addr) (x37A : Option Addr) (x37n : Nat) (x37c : Nat) (x38 : Int) (x39 : Int) (x45 : Int) (x46 : Int) (w : World) : Prop :=
  law13_SlideTight.p11 L1 L0 K x0 x5A x5n x5c x8A x8n x8c x10 x37A x37n x37c x38 x39 x45 x46 (decide (x46 < x45)) w
def law13_SlideTight.l1 (L0 : Int → Option Addr → Nat → Nat → Option Addr → Nat → Nat → Option Addr → Nat → Nat → Int → Int → World → Prop) (K : Value → World → Prop) (k : Nat) : Int → Option Addr → Nat → Nat → Option Addr → Nat → Nat → Addr → Option Addr → Nat → Nat → Int → Int → Int → Int → World → Prop :=
  Nat.rec (motive := fun _ => Int → Option Addr → Nat → Nat → Option Addr → Nat → Nat → Addr → Option Addr → Nat → Nat → Int → Int → Int → Int → World → Prop) (fun _ _ _ _ _ _ _ _ _ _ _ _ _ _ _ _ => False) (fun _ ih => law13_SlideTight.b1 ih L0 K) k
theorem law13_SlideTight.l1_succ (L0 : Int → Option Addr → Nat → Nat → Option Addr → Nat → Nat → Option Addr → Nat → Nat → Int → Int → World → Prop) (K : Value → World → Prop) (k : Nat) (x0 : Int) (x5A : Option Addr) (x5n : Nat) (x5c : Nat) (x8A : Option Addr) (x8n : Nat) (x8c : Nat) (x10 : Addr) (x37A : Option Addr) (x37n : Nat) (x37c : Nat) (x38 : Int) (x39 : Int) (x45 : Int) (x46 : Int) (w : World) : law13_SlideTight.l1 L0 K (k + 1) x0 x5A x5n x5c x8A x8n x8c x10 x37A x37n x37c x38 x39 x45 x46 w = law13_SlideTight.b1 (law13_SlideTight.l1 L0 K k) L0 K x0 x5A x5n x5c x8A x8n x8c x10 x37A x37n x37c x38 x39 x45 x46 w := rfl
abbrev law13_SlideTight.p10 (L0 : Int → Option Addr → Nat → Nat → Option Addr → Nat → Nat → Option Addr → Nat → Nat → Int → Int → World → Prop) (K : Value → World → Prop) (x0 : Int) (x5A : Option Addr) (x5n : Nat) (x5c : Nat) (x8A : Option Addr) (x8n : Nat) (x8c : Nat) (x10 : Addr) (x37A : Option Addr) (x37n : Nat) (x37c : Nat) (x38 : Int) (x39 : Int) (x45 : Int) (x46 : Int) (w : World) : Prop :=
  ∃ k, law13_SlideTight.l1 L0 K k x0 x5A x5n x5c x8A x8n x8c x10 x37A x37n x37c x38 x39 x45 x46 w
abbrev law13_SlideTight.p9 (L0 : Int → Option Addr → Nat → Nat → Option Addr → Nat → Nat → Option Addr → Nat → Nat → Int → Int → World → Prop) (K : Value → World → Prop) (x0 : Int) (x5A : Option Addr) (x5n : Nat) (x5c : Nat) (x8A : Option Addr) (x8n : Nat) (x8c : Nat) (x10 : Addr) (x37A : Option Addr) (x37n : Nat) (x37c : Nat) (x38 : Int) (x39 : Int) (w : World) : Prop :=
  ∃ (A28 : Option Addr) (m29 : Nat) (c30 : Nat), w.cell? (x10.add 3) = some (.slice A28 m29 c30) ∧ law13_SlideTight.p10 L0 K x0 x5A x5n x5c x8A x8n x8c x10 x37A x37n x37c x38 x39 ((m29 : Nat) : Int) 0 w
abbrev law13_SlideTight.p8 (L0 : Int → Option Addr → Nat → Nat → Option Addr → Nat → Nat → Option Addr → Nat → Nat → Int → Int → World → Prop) (K : Value → World → Prop) (x0 : Int) (x5A : Option Addr) (x5n : Nat) (x5c : Nat) (x8A : Option Addr) (x8n : Nat) (x8c : Nat) (x37A : Option Addr) (x37n : Nat) (x37c : Nat) (x38 : Int) (x39 : Int) (w : World) : Prop :=
  (0 ≤ x39 ∧ x39 < ((x37n : Nat) : Int)) ∧ ∃ (a16 : Addr), x37A = some a16 ∧ ∃ (n17 : Int), w.cell? (a16.add (x39.toNat * 4)) = some (.int .i64 n17) ∧ ∃ (n18 : Int), w.cell? ((a16.add (x39.toNat * 4)).add 1) = some (.int .i64 n18) ∧ ∃ (n19 : Int), w.cell? ((a16.add (x39.toNat * 4)).add 2) = some (.int .i64 n19) ∧ ∃ (A20 : Option Addr) (m21 : Nat) (c22 : Nat), w.cell? ((a16.add (x39.toNat * 4)).add 3) = some (.slice A20 m21 c22) ∧ wlet (w.alloc (.cells #[.int .i64 0, .int .i64 0, .int .i64 0, .slice none 0 0] 46)) fun w23 => canStore w23 (⟨w.heap.size, 0, none⟩) ∧ wlet (w23.setCell (⟨w.heap.size, 0, none⟩) (.int .i64 n17)) fun w24 => canStore w24 (⟨w.heap.size, 1, none⟩) ∧ wlet (w24.setCell (⟨w.heap.size, 1, none⟩) (.int .i64 n18)) fun w25 => canStore w25 (⟨w.heap.size, 2, none⟩) ∧ wlet (w25.setCell (⟨w.heap.size, 2, none⟩) (.int .i64 n19)) fun w26 => canStore w26 (⟨w.heap.size, 3, none⟩) ∧ wlet (w26.setCell (⟨w.heap.size, 3, none⟩) (.slice A20 m21 c22)) fun w27 => law13_SlideTight.p9 L0 K x0 x5A x5n x5c x8A x8n x8c (⟨w.heap.size, 0, none⟩) x37A x37n x37c x38 x39 w27
abbrev law13_SlideTight.p25 (L2 : Int → Option Addr → Nat → Nat → Option Addr → Nat → Nat → Int → Addr → Option Addr → Nat → Nat → Int → Int → World → Prop) (K : Value → World → Prop) (x0 : Int) (x5A : Option Addr) (x5n : Nat) (x5c : Nat) (x8A : Option Addr) (x8n : Nat) (x8c : Nat) (x11 : Int) (x12 : Addr) (x59A : Option Addr) (x59n : Nat) (x59c : Nat) (x60 : Int) (x61 : Int) (w : World) : Prop :=
  L2 x0 x5A x5n x5c x8A x8n x8c x11 x12 x59A x59n x59c x60 (IntKind.wrap .i64 (x61 + (1 : Int))) w
abbrev law13_SlideTight.p24 (L2 : Int → Option Addr → Nat → Nat → Option Addr → Nat → Nat → Int → Addr → Option Addr → Nat → Nat → Int → Int → World → Prop) (K : Value → World → Prop) (x0 : Int) (x5A : Option Addr) (x5n : Nat) (x5c : Nat) (x8A : Option Addr) (x8n : Nat) (x8c : Nat) (x11 : Int) (x12 : Addr) (x14 : Addr) (x15 : Option Addr) (x59A : Option Addr) (x59n : Nat) (x59c : Nat) (x60 : Int) (x61 : Int) (w : World) : Prop :=
  CallsE Tryd.prog 22 #[.pointer x15] w (fun v66 w67 => ∃ (n68 : Int), v66 = .int .i64 n68 ∧ CallsE Tryd.prog 21 #[.pointer x15] w67 (fun v69 w70 => ∃ (n71 : Int), v69 = .int .i64 n71 ∧ CallsE Tryd.prog 23 #[.pointer x15] w70 (fun v72 w73 => ∃ (n74 : Int), v72 = .int .i64 n74 ∧ condP (decide (n71 < n74)) (∃ (n75 : Int), w73.cell? (x14.add 1) = some (.int .i64 n75) ∧ (0 ≤ n75 ∧ n75 < ((8 : Nat) : Int)) ∧ ∃ (n76 : Int), w73.cell? (x12.add n75.toNat) = some (.int .i64 n76) ∧ (0 ≤ n75 ∧ n75 < ((8 : Nat) : Int)) ∧ canStore w73 (x12.add n75.toNat) ∧ wlet (w73.setCell (x12.add n75.toNat) (.int .i64 (IntKind.wrap .i64 (n76 + (1 : Int))))) fun w77 => law13_SlideTight.p25 L2 K x0 x5A x5n x5c x8A x8n x8c (IntKind.wrap .i64 (x11 + n68)) x12 x59A x59n x59c x60 x61 w77) (law13_SlideTight.p25 L2 K x0 x5A x5n x5c x8A x8n x8c (IntKind.wrap .i64 (x11 + n68)) x12 x59A x59n x59c x60 x61 w73))))
abbrev law13_SlideTight.p23 (L2 : Int → Option Addr → Nat → Nat → Option Addr → Nat → Nat → Int → Addr → Option Addr → Nat → Nat → Int → Int → World → Prop) (K : Value → World → Prop) (x0 : Int) (x5A : Option Addr) (x5n : Nat) (x5c : Nat) (x8A : Option Addr) (x8n : Nat) (x8c : Nat) (x11 : Int) (x12 : Addr) (x14 : Addr) (x15 : Option Addr) (x59A : Option Addr) (x59n : Nat) (x59c : Nat) (x60 : Int) (x61 : Int) (x82 : Bool) (w : World) : Prop :=
  condP x82 (K (.bool false) w) (law13_SlideTight.p24 L2 K x0 x5A x5n x5c x8A x8n x8c x11 x12 x14 x15 x59A x59n x59c x60 x61 w)
abbrev law13_SlideTight.p22 (L2 : Int → Option Addr → Nat → Nat → Option Addr → Nat → Nat → Int → Addr → Option Addr → Nat → Nat → Int → Int → World → Prop) (K : Value → World → Prop) (x0 : Int) (x5A : Option Addr) (x5n : Nat) (x5c : Nat) (x8A : Option Addr) (x8n : Nat) (x8c : Nat) (x11 : Int) (x12 : Addr) (x14 : Addr) (x15 : Option Addr) (x16 : Int) (x59A : Option Addr) (x59n : Nat) (x59c : Nat) (x60 : Int) (x61 : Int) (w : World) : Prop :=
  condP (x16 != (0 : Int)) (law13_SlideTight.p23 L2 K x0 x5A x5n x5c x8A x8n x8c x11 x12 x14 x15 x59A x59n x59c x60 x61 true w) (∃ (n78 : Int), w.cell? x14 = some (.int .i64 n78) ∧ condP (n78 != x11) (law13_SlideTight.p23 L2 K x0 x5A x5n x5c x8A x8n x8c x11 x12 x14 x15 x59A x59n x59c x60 x61 true w) (CallsE Tryd.prog 21 #[.pointer x15] w (fun v79 w80 => ∃ (n81 : Int), v79 = .int .i64 n81 ∧ law13_SlideTight.p23 L2 K x0 x5A x5n x5c x8A x8n x8c x11 x12 x14 x15 x59A x59n x59c x60 x61 (n81 == (0 : Int)) w80)))
abbrev law13_SlideTight.p21 (L2 : Int → Option Addr → Nat → Nat → Option Addr → Nat → Nat → Int → Addr → Option Addr → Nat → Nat → Int → Int → World → Prop) (K : Value → World → Prop) (x0 : Int) (x5A : Option Addr) (x5n : Nat) (x5c : Nat) (x8A : Option Addr) (x8n : Nat) (x8c : Nat) (x11 : Int) (x12 : Addr) (x14 : Addr) (x59A : Option Addr) (x59n : Nat) (x59c : Nat) (x60 : Int) (x61 : Int) (w : World) : Prop :=
  ∃ (n56 : Int), w.cell? x14 = some (.int .i64 n56) ∧ ∃ (n57 : Int), w.cell? (x14.add 1) = some (.int .i64 n57) ∧ ∃ (n58 : Int), w.cell? (x14.add 2) = some (.int .i64 n58) ∧ ∃ (A59 : Option Addr) (m60 : Nat) (c61 : Nat), w.cell? (x14.add 3) = some (.slice A59 m60 c61) ∧ CallsE Tryd.prog 20 #[.agg #[.int .i64 n56, .int .i64 n57, .int .i64 n58, .slice A59 m60 c61]] w (fun v62 w63 => ∃ (p64 : Option Addr) (n65 : Int), v62 = .tuple #[.pointer p64, .int .i64 n65] ∧ law13_SlideTight.p22 L2 K x0 x5A x5n x5c x8A x8n x8c x11 x12 x14 p64 n65 x59A x59n x59c x60 x61 w63)
abbrev law13_SlideTight.p20 (L2 : Int → Option Addr → Nat → Nat → Option Addr → Nat → Nat → Int → Addr → Option Addr → Nat → Nat → Int → Int → World → Prop) (K : Value → World → Prop) (x0 : Int) (x5A : Option Addr) (x5n : Nat) (x5c : Nat) (x8A : Option Addr) (x8n : Nat) (x8c : Nat) (x11 : Int) (x12 : Addr) (x59A : Option Addr) (x59n : Nat) (x59c : Nat) (x60 : Int) (x61 : Int) (w : World) : Prop :=
  (0 ≤ x61 ∧ x61 < ((x59n : Nat) : Int)) ∧ ∃ (a44 : Addr), x59A = some a44 ∧ ∃ (n45 : Int), w.cell? (a44.add (x61.toNat * 4)) = some (.int .i64 n45) ∧ ∃ (n46 : Int), w.cell? ((a44.add (x61.toNat * 4)).add 1) = some (.int .i64 n46) ∧ ∃ (n47 : Int), w.cell? ((a44.add (x61.toNat * 4)).add 2) = some (.int .i64 n47) ∧ ∃ (A48 : Option Addr) (m49 : Nat) (c50 : Nat), w.cell? ((a44.add (x61.toNat * 4)).add 3) = some (.slice A48 m49 c50) ∧ wlet (w.alloc (.cells #[.int .i64 0, .int .i64 0, .int .i64 0, .slice none 0 0] 46)) fun w51 => canStore w51 (⟨w.heap.size, 0, none⟩) ∧ wlet (w51.setCell (⟨w.heap.size, 0, none⟩) (.int .i64 n45)) fun w52 => canStore w52 (⟨w.heap.size, 1, none⟩) ∧ wlet (w52.setCell (⟨w.heap.size, 1, none⟩) (.int .i64 n46)) fun w53 => canStore w53 (⟨w.heap.size, 2, none⟩) ∧ wlet (w53.setCell (⟨w.heap.size, 2, none⟩) (.int .i64 n47)) fun w54 => canStore w54 (⟨w.heap.size, 3, none⟩) ∧ wlet (w54.setCell (⟨w.heap.size, 3, none⟩) (.slice A48 m49 c50)) fun w55 => law13_SlideTight.p21 L2 K x0 x5A x5n x5c x8A x8n x8c x11 x12 (⟨w.heap.size, 0, none⟩) x59A x59n x59c x60 x61 w55
abbrev law13_SlideTight.p29 (K : Value → World → Prop) (x4 : Bool) (w : World) : Prop :=
  K (.bool x4) w
abbrev law13_SlideTight.p28 (K : Value → World → Prop) (x0 : Int) (x5A : Option Addr) (x5n : Nat) (x5c : Nat) (x8A : Option Addr) (x8n : Nat) (x8c : Nat) (x11 : Int) (w : World) : Prop :=
  CallsE Tryd.prog 24 #[.slice x8A x8n x8c] w (fun v91 w92 => ∃ (n93 : Int), v91 = .int .i64 n93 ∧ condP (x11 == n93) (CallsE Tryd.prog 14 #[.int .i64 x0, .slice x5A x5n x5c] w92 (fun v94 w95 => ∃ (b96 : Bool), v94 = .bool b96 ∧ law13_SlideTight.p29 K b96 w95)) (law13_SlideTight.p29 K false w92))
abbrev law13_SlideTight.b3 (L3 : Int → Option Addr → Nat → Nat → Option Addr → Nat → Nat → Int → Int → Int → Int → Int → Int → Int → Int → Int → Int → World → Prop) (K : Value → World → Prop) (x0 : Int) (x5A : Option Addr) (x5n : Nat) (x5c : Nat) (x8A : Option Addr) (x8n : Nat) (x8c : Nat) (x11 : Int) (x99_0 : Int) (x99_1 : Int) (x99_2 : Int) (x99_3 : Int) (x99_4 : Int) (x99_5 : Int) (x99_6 : Int) (x99_7 : Int) (x100 : Int) (w : World) : Prop :=
  condP (decide (x100 < (8 : Int))) ((0 ≤ x100 ∧ x100 < ((8 : Nat) : Int)) ∧ ∃ (n90 : Int), ([.int .i64 x99_0, .int .i64 x99_1, .int .i64 x99_2, .int .i64 x99_3, .int .i64 x99_4, .int .i64 x99_5, .int .i64 x99_6, .int .i64 x99_7] : List Value)[x100.toNat]? = some (.int .i64 n90) ∧ condP (decide ((1 : Int) < n90)) (K (.bool false) w) (L3 x0 x5A x5n x5c x8A x8n x8c x11 x99_0 x99_1 x99_2 x99_3 x99_4 x99_5 x99_6 x99_7 (IntKind.wrap .i64 (x100 + (1 : Int))) w)) (law13_SlideTight.p28 K x0 x5A x5n x5c x8A x8n x8c x11 w)
def law13_SlideTight.l3 (K : Value → World → Prop) (k : Nat) : Int → Option Addr → Nat → Nat → Option Addr → Nat → Nat → Int → Int → Int → Int → Int → Int → Int → Int → Int → Int → World → Prop :=
  Nat.rec (motive := fun _ => Int → Option Addr → Nat → Nat → Option Addr → Nat → Nat → Int → Int → Int → Int → Int → Int → Int → Int → Int → Int → World → Prop) (fun _ _ _ _ _ _ _ _ _ _ _ _ _ _ _ _ _ _ => False) (fun _ ih => law13_SlideTight.b3 ih K) k
theorem law13_SlideTight.l3_succ (K : Value → World → Prop) (k : Nat) (x0 : Int) (x5A : Option Addr) (x5n : Nat) (x5c : Nat) (x8A : Option Addr) (x8n : Nat) (x8c : Nat) (x11 : Int) (x99_0 : Int) (x99_1 : Int) (x99_2 : Int) (x99_3 : Int) (x99_4 : Int) (x99_5 : Int) (x99_6 : Int) (x99_7 : Int) (x100 : Int) (w : World) : law13_SlideTight.l3 K (k + 1) x0 x5A x5n x5c x8A x8n x8c x11 x99_0 x99_1 x99_2 x99_3 x99_4 x99_5 x99_6 x99_7 x100 w = law13_SlideTight.b3 (law13_SlideTight.l3 K k) K x0 x5A x5n x5c x8A x8n x8c x11 x99_0 x99_1 x99_2 x99_3 x99_4 x99_5 x99_6 x99_7 x100 w := rfl
abbrev law13_SlideTight.p27 (K : Value → World → Prop) (x0 : Int) (x5A : Option Addr) (x5n : Nat) (x5c : Nat) (x8A : Option Addr) (x8n : Nat) (x8c : Nat) (x11 : Int) (x99_0 : Int) (x99_1 : Int) (x99_2 : Int) (x99_3 : Int) (x99_4 : Int) (x99_5 : Int) (x99_6 : Int) (x99_7 : Int) (x100 : Int) (w : World) : Prop :=
  ∃ k, law13_SlideTight.l3 K k x0 x5A x5n x5c x8A x8n x8c x11 x99_0 x99_1 x99_2 x99_3 x99_4 x99_5 x99_6 x99_7 x100 w
abbrev law13_SlideTight.p26 (K : Value → World → Prop) (x0 : Int) (x5A : Option Addr) (x5n : Nat) (x5c : Nat) (x8A : Option Addr) (x8n : Nat) (x8c : Nat) (x11 : Int) (x12 : Addr) (w : World) : Prop :=
  ∃ (n82 : Int), w.cell? x12 = some (.int .i64 n82) ∧ ∃ (n83 : Int), w.cell? (x12.add 1) = some (.int .i64 n83) ∧ ∃ (n84 : Int), w.cell? (x12.add 2) = some (.int .i64 n84) ∧ ∃ (n85 : Int), w.cell? (x12.add 3) = some (.int .i64 n85) ∧ ∃ (n86 : Int), w.cell? (x12.add 4) = some (.int .i64 n86) ∧ ∃ (n87 : Int), w.cell? (x12.add 5) = some (.int .i64 n87) ∧ ∃ (n88 : Int), w.cell? (x12.add 6) = some (.int .i64 n88) ∧ ∃ (n89 : Int), w.cell? (x12.add 7) = some (.int .i64 n89) ∧ law13_SlideTight.p27 K x0 x5A x5n x5c x8A x8n x8c x11 n82 n83 n84 n85 n86 n87 n88 n89 0 w
abbrev law13_SlideTight.p19 (L2 : Int → Option Addr → Nat → Nat → Option Addr → Nat → Nat → Int → Addr → Option Addr → Nat → Nat → Int → Int → World → Prop) (K : Value → World → Prop) (x0 : Int) (x5A : Option Addr) (x5n : Nat) (x5c : Nat) (x8A : Option Addr) (x8n : Nat) (x8c : Nat) (x11 : Int) (x12 : Addr) (x59A : Option Addr) (x59n : Nat) (x59c : Nat) (x60 : Int) (x61 : Int) (x62 : Bool) (w : World) : Prop :=
  condP x62 (law13_SlideTight.p20 L2 K x0 x5A x5n x5c x8A x8n x8c x11 x12 x59A x59n x59c x60 x61 w) (law13_SlideTight.p26 K x0 x5A x5n x5c x8A x8n x8c x11 x12 w)
abbrev law13_SlideTight.b2 (L2 : Int → Option Addr → Nat → Nat → Option Addr → Nat → Nat → Int → Addr → Option Addr → Nat → Nat → Int → Int → World → Prop) (K : Value → World → Prop) (x0 : Int) (x5A : Option Addr) (x5n : Nat) (x5c : Nat) (x8A : Option Addr) (x8n : Nat) (x8c : Nat) (x11 : Int) (x12 : Addr) (x59A : Option Addr) (x59n : Nat) (x59c : Nat) (x60 : Int) (x61 : Int) (w : World) : Prop :=
  law13_SlideTight.p19 L2 K x0 x5A x5n x5c x8A x8n x8c x11 x12 x59A x59n x59c x60 x61 (decide (x61 < x60)) w
def law13_SlideTight.l2 (K : Value → World → Prop) (k : Nat) : Int → Option Addr → Nat → Nat → Option Addr → Nat → Nat → Int → Addr → Option Addr → Nat → Nat → Int → Int → World → Prop :=
  Nat.rec (motive := fun _ => Int → Option Addr → Nat → Nat → Option Addr → Nat → Nat → Int → Addr → Option Addr → Nat → Nat → Int → Int → World → Prop) (fun _ _ _ _ _ _ _ _ _ _ _ _ _ _ _ => False) (fun _ ih => law13_SlideTight.b2 ih K) k
theorem law13_SlideTight.l2_succ (K : Value → World → Prop) (k : Nat) (x0 : Int) (x5A : Option Addr) (x5n : Nat) (x5c : Nat) (x8A : Option Addr) (x8n : Nat) (x8c : Nat) (x11 : Int) (x12 : Addr) (x59A : Option Addr) (x59n : Nat) (x59c : Nat) (x60 : Int) (x61 : Int) (w : World) : law13_SlideTight.l2 K (k + 1) x0 x5A x5n x5c x8A x8n x8c x11 x12 x59A x59n x59c x60 x61 w = law13_SlideTight.b2 (law13_SlideTight.l2 K k) K x0 x5A x5n x5c x8A x8n x8c x11 x12 x59A x59n x59c x60 x61 w := rfl
abbrev law13_SlideTight.p18 (K : Value → World → Prop) (x0 : Int) (x5A : Option Addr) (x5n : Nat) (x5c : Nat) (x8A : Option Addr) (x8n : Nat) (x8c : Nat) (x11 : Int) (x12 : Addr) (x59A : Option Addr) (x59n : Nat) (x59c : Nat) (x60 : Int) (x61 : Int) (w : World) : Prop :=
  ∃ k, law13_SlideTight.l2 K k x0 x5A x5n x5c x8A x8n x8c x11 x12 x59A x59n x59c x60 x61 w
abbrev law13_SlideTight.p17 (K : Value → World → Prop) (x0 : Int) (x5A : Option Addr) (x5n : Nat) (x5c : Nat) (x8A : Option Addr) (x8n : Nat) (x8c : Nat) (x11 : Int) (x12 : Addr) (w : World) : Prop :=
  law13_SlideTight.p18 K x0 x5A x5n x5c x8A x8n x8c x11 x12 x5A x5n x5c ((x5n : Nat) : Int) 0 w
abbrev law13_SlideTight.p16 (K : Value → World → Prop) (x0 : Int) (x5A : Option Addr) (x5n : Nat) (x5c : Nat) (x8A : Option Addr) (x8n : Nat) (x8c : Nat) (x11 : Int) (w : World) : Prop :=
  wlet (w.alloc (.cells #[.int .i64 0, .int .i64 0, .int .i64 0, .int .i64 0, .int .i64 0, .int .i64 0, .int .i64 0, .int .i64 0] 48)) fun w43 => law13_SlideTight.p17 K x0 x5A x5n x5c x8A x8n x8c x11 (⟨w.heap.size, 0, none⟩) w43
abbrev law13_SlideTight.p15 (K : Value → World → Prop) (x0 : Int) (x5A : Option Addr) (x5n : Nat) (x5c : Nat) (x8A : Option Addr) (x8n : Nat) (x8c : Nat) (w : World) : Prop :=
  law13_SlideTight.p16 K x0 x5A x5n x5c x8A x8n x8c 0 w
abbrev law13_SlideTight.p7 (L0 : Int → Option Addr → Nat → Nat → Option Addr → Nat → Nat → Option Addr → Nat → Nat → Int → Int → World → Prop) (K : Value → World → Prop) (x0 : Int) (x5A : Option Addr) (x5n : Nat) (x5c : Nat) (x8A : Option Addr) (x8n : Nat) (x8c : Nat) (x37A : Option Addr) (x37n : Nat) (x37c : Nat) (x38 : Int) (x39 : Int) (x40 : Bool) (w : World) : Prop :=
  condP x40 (law13_SlideTight.p8 L0 K x0 x5A x5n x5c x8A x8n x8c x37A x37n x37c x38 x39 w) (law13_SlideTight.p15 K x0 x5A x5n x5c x8A x8n x8c w)
abbrev law13_SlideTight.b0 (L0 : Int → Option Addr → Nat → Nat → Option Addr → Nat → Nat → Option Addr → Nat → Nat → Int → Int → World → Prop) (K : Value → World → Prop) (x0 : Int) (x5A : Option Addr) (x5n : Nat) (x5c : Nat) (x8A : Option Addr) (x8n : Nat) (x8c : Nat) (x37A : Option Addr) (x37n : Nat) (x37c : Nat) (x38 : Int) (x39 : Int) (w : World) : Prop :=
  law13_SlideTight.p7 L0 K x0 x5A x5n x5c x8A x8n x8c x37A x37n x37c x38 x39 (decide (x39 < x38)) w
def law13_SlideTight.l0 (K : Value → World → Prop) (k : Nat) : Int → Option Addr → Nat → Nat → Option Addr → Nat → Nat → Option Addr → Nat → Nat → Int → Int → World → Prop :=
  Nat.rec (motive := fun _ => Int → Option Addr → Nat → Nat → Option Addr → Nat → Nat → Option Addr → Nat → Nat → Int → Int → World → Prop) (fun _ _ _ _ _ _ _ _ _ _ _ _ _ => False) (fun _ ih => law13_SlideTight.b0 ih K) k
theorem law13_SlideTight.l0_succ (K : Value → World → Prop) (k : Nat) (x0 : Int) (x5A : Option Addr) (x5n : Nat) (x5c : Nat) (x8A : Option Addr) (x8n : Nat) (x8c : Nat) (x37A : Option Addr) (x37n : Nat) (x37c : Nat) (x38 : Int) (x39 : Int) (w : World) : law13_SlideTight.l0 K (k + 1) x0 x5A x5n x5c x8A x8n x8c x37A x37n x37c x38 x39 w = law13_SlideTight.b0 (law13_SlideTight.l0 K k) K x0 x5A x5n x5c x8A x8n x8c x37A x37n x37c x38 x39 w := rfl
abbrev law13_SlideTight.p6 (K : Value → World → Prop) (x0 : Int) (x5A : Option Addr) (x5n : Nat) (x5c : Nat) (x8A : Option Addr) (x8n : Nat) (x8c : Nat) (x37A : Option Addr) (x37n : Nat) (x37c : Nat) (x38 : Int) (x39 : Int) (w : World) : Prop :=
  ∃ k, law13_SlideTight.l0 K k x0 x5A x5n x5c x8A x8n x8c x37A x37n x37c x38 x39 w
abbrev law13_SlideTight.p5 (K : Value → World → Prop) (x0 : Int) (x1A : Option Addr) (x1n : Nat) (x1c : Nat) (x5A : Option Addr) (x5n : Nat) (x5c : Nat) (x8A : Option Addr) (x8n : Nat) (x8c : Nat) (w : World) : Prop :=
  law13_SlideTight.p6 K x0 x5A x5n x5c x8A x8n x8c x1A x1n x1c ((x1n : Nat) : Int) 0 w
abbrev law13_SlideTight.p4 (K : Value → World → Prop) (x0 : Int) (x1A : Option Addr) (x1n : Nat) (x1c : Nat) (x5A : Option Addr) (x5n : Nat) (x5c : Nat) (w : World) : Prop :=
  law13_SlideTight.p5 K x0 x1A x1n x1c x5A x5n x5c none 0 0 w
abbrev law13_SlideTight.p3 (K : Value → World → Prop) (x0 : Int) (x1A : Option Addr) (x1n : Nat) (x1c : Nat) (x5A : Option Addr) (x5n : Nat) (x5c : Nat) (x7 : Int) (w : World) : Prop :=
  condP (x7 != (0 : Int)) (CallsE Tryd.prog 14 #[.int .i64 x0, .slice x1A x1n x1c] w (fun v13 w14 => ∃ (b15 : Bool), v13 = .bool b15 ∧ K (.bool (!b15)) w14)) (law13_SlideTight.p4 K x0 x1A x1n x1c x5A x5n x5c w)
abbrev law13_SlideTight.p2 (K : Value → World → Prop) (x0 : Int) (x1A : Option Addr) (x1n : Nat) (x1c : Nat) (w : World) : Prop :=
  CallsE Tryd.prog 12 #[.int .i64 x0, .slice x1A x1n x1c] w (fun v4 w5 => ∃ (A6 : Option Addr) (m7 : Nat) (c8 : Nat) (A9 : Option Addr) (m10 : Nat) (c11 : Nat) (n12 : Int), v4 = .tuple #[.slice A6 m7 c8, .slice A9 m10 c11, .int .i64 n12] ∧ law13_SlideTight.p3 K x0 x1A x1n x1c A6 m7 c8 n12 w5)
abbrev law13_SlideTight.p1 (K : Value → World → Prop) (x0 : Int) (x1A : Option Addr) (x1n : Nat) (x1c : Nat) (w : World) : Prop :=
  condP (decide ((300 : Int) < ((x1n : Nat) : Int))) (K (.bool true) w) (law13_SlideTight.p2 K x0 x1A x1n x1c w)
abbrev law13_SlideTight.p0 (K : Value → World → Prop) (x0 : Int) (x1A : Option Addr) (x1n : Nat) (x1c : Nat) (w : World) : Prop :=
  CallsE Tryd.prog 8 #[] w (fun v1 w2 => ∃ (b3 : Bool), v1 = .bool b3 ∧ condP (!b3) (K (.bool false) w2) (law13_SlideTight.p1 K x0 x1A x1n x1c w2))
abbrev law13_SlideTight.F (q0 : Int) (q1A : Option Addr) (q1n : Nat) (q1c : Nat) (K : Value → World → Prop) (w : World) : Prop :=
  law13_SlideTight.p0 K q0 q1A q1n q1c w
theorem law13_SlideTight.ok {q0 : Int} {q1A : Option Addr} {q1n : Nat} {q1c : Nat} {K : Value → World → Prop} {w : World} (h : law13_SlideTight.F q0 q1A q1n q1c K w) :
    CallsE Tryd.prog 7 #[.int .i64 q0, .slice q1A q1n q1c] w K := by
  refine calls_of_J (n := 115) (rs := [.tmp 4]) Tryd.func7 rfl rfl rfl rfl ?_
  refine J_seq (fun σ w => vI .i64 (σ 0) fun x0 => vS (σ 1) fun x1A x1n x1c => law13_SlideTight.p0 K x0 x1A x1n x1c w) ?_ ?_
  ·
    exact sh_sound _ _ _ _ (Eq.mp (by kernel_rfl) h)
  · intro σ w h
    obtain ⟨x0, e0, h⟩ := vI_elim h
    obtain ⟨x1A, x1n, x1c, e1, h⟩ := vS_elim h
    refine J.sub ?_ (((Sub.base _).upd e0).upd e1)
    clear e0 e1
    refine J_seq (fun σ w => vI .i64 (σ 0) fun x0 => vS (σ 1) fun x1A x1n x1c => law13_SlideTight.p1 K x0 x1A x1n x1c w) ?_ ?_
    ·
      exact sh_sound _ _ _ _ (Eq.mp (by kernel_rfl) h)
    · intro σ w h
      obtain ⟨x0, e0, h⟩ := vI_elim h
      obtain ⟨x1A, x1n, x1c, e1, h⟩ := vS_elim h
      refine J.sub ?_ (((Sub.base _).upd e0).upd e1)
      clear e0 e1
      refine J_seq (fun σ w => vI .i64 (σ 0) fun x0 => vS (σ 1) fun x1A x1n x1c => law13_SlideTight.p2 K x0 x1A x1n x1c w) ?_ ?_
      ·
        exact sh_sound _ _ _ _ (Eq.mp (by kernel_rfl) h)
      · intro σ w h
        obtain ⟨x0, e0, h⟩ := vI_elim h
        obtain ⟨x1A, x1n, x1c, e1, h⟩ := vS_elim h
        refine J.sub ?_ (((Sub.base _).upd e0).upd e1)
        clear e0 e1
        refine J_seq (fun σ w => vI .i64 (σ 0) fun x0 => vS (σ 1) fun x1A x1n x1c => vS (σ 5) fun x5A x5n x5c => vI .i64 (σ 7) fun x7 => law13_SlideTight.p3 K x0 x1A x1n x1c x5A x5n x5c x7 w) ?_ ?_
        ·
          exact sh_sound _ _ _ _ (Eq.mp (by kernel_rfl) h)
        · intro σ w h
          obtain ⟨x0, e0, h⟩ := vI_elim h
          obtain ⟨x1A, x1n, x1c, e1, h⟩ := vS_elim h
          obtain ⟨x5A, x5n, x5c, e5, h⟩ := vS_elim h
          obtain ⟨x7, e7, h⟩ := vI_elim h
          refine J.sub ?_ (((((Sub.base _).upd e0).upd e1).upd e5).upd e7)
          clear e0 e1 e5 e7
          refine J_seq (fun σ w => vI .i64 (σ 0) fun x0 => vS (σ 1) fun x1A x1n x1c => vS (σ 5) fun x5A x5n x5c => law13_SlideTight.p4 K x0 x1A x1n x1c x5A x5n x5c w) ?_ ?_
          ·
            exact sh_sound _ _ _ _ (Eq.mp (by kernel_rfl) h)
          · intro σ w h
            obtain ⟨x0, e0, h⟩ := vI_elim h
            obtain ⟨x1A, x1n, x1c, e1, h⟩ := vS_elim h
            obtain ⟨x5A, x5n, x5c, e5, h⟩ := vS_elim h
            refine J.sub ?_ ((((Sub.base _).upd e0).upd e1).upd e5)
            clear e0 e1 e5
            refine J_seq (fun σ w => vI .i64 (σ 0) fun x0 => vS (σ 1) fun x1A x1n x1c => vS (σ 5) fun x5A x5n x5c => vS (σ 8) fun x8A x8n x8c => law13_SlideTight.p5 K x0 x1A x1n x1c x5A x5n x5c x8A x8n x8c w) ?_ ?_
            ·
              exact sh_sound _ _ _ _ (Eq.mp (by kernel_rfl) h)
            · intro σ w h
              obtain ⟨x0, e0, h⟩ := vI_elim h
              obtain ⟨x1A, x1n, x1c, e1, h⟩ := vS_elim h
              obtain ⟨x5A, x5n, x5c, e5, h⟩ := vS_elim h
              obtain ⟨x8A, x8n, x8c, e8, h⟩ := vS_elim h
              refine J.sub ?_ (((((Sub.base _).upd e0).upd e1).upd e5).upd e8)
              clear e0 e1 e5 e8
              refine J_seq (fun σ w => vI .i64 (σ 0) fun x0 => vS (σ 5) fun x5A x5n x5c => vS (σ 8) fun x8A x8n x8c => law13_SlideTight.p15 K x0 x5A x5n x5c x8A x8n x8c w) ?_ ?_
              ·
                refine J_seq (fun σ w => vI .i64 (σ 0) fun x0 => vS (σ 5) fun x5A x5n x5c => vS (σ 8) fun x8A x8n x8c => vS (σ 37) fun x37A x37n x37c => vI .i64 (σ 38) fun x38 => vI .i64 (σ 39) fun x39 => law13_SlideTight.p6 K x0 x5A x5n x5c x8A x8n x8c x37A x37n x37c x38 x39 w) ?_ ?_
                ·
                  exact sh_sound _ _ _ _ (Eq.mp (by kernel_rfl) h)
                · intro σ w h
                  obtain ⟨x0, e0, h⟩ := vI_elim h
                  obtain ⟨x5A, x5n, x5c, e5, h⟩ := vS_elim h
                  obtain ⟨x8A, x8n, x8c, e8, h⟩ := vS_elim h
                  obtain ⟨x37A, x37n, x37c, e37, h⟩ := vS_elim h
                  obtain ⟨x38, e38, h⟩ := vI_elim h
                  obtain ⟨x39, e39, h⟩ := vI_elim h
                  refine J.sub ?_ (((((((Sub.base _).upd e0).upd e5).upd e8).upd e37).upd e38).upd e39)
                  clear e0 e5 e8 e37 e38 e39
                  refine J_block ?_
                  refine J_loop (fun k σ w => vI .i64 (σ 0) fun x0 => vS (σ 5) fun x5A x5n x5c => vS (σ 8) fun x8A x8n x8c => vS (σ 37) fun x37A x37n x37c => vI .i64 (σ 38) fun x38 => vI .i64 (σ 39) fun x39 => law13_SlideTight.l0 K k x0 x5A x5n x5c x8A x8n x8c x37A x37n x37c x38 x39 w) (Eq.mp (by kernel_rfl) h) ?_ ?_
                  · intro σ w h
                    obtain ⟨x0, e0, h⟩ := vI_elim h
                    obtain ⟨x5A, x5n, x5c, e5, h⟩ := vS_elim h
                    obtain ⟨x8A, x8n, x8c, e8, h⟩ := vS_elim h
                    obtain ⟨x37A, x37n, x37c, e37, h⟩ := vS_elim h
                    obtain ⟨x38, e38, h⟩ := vI_elim h
                    obtain ⟨x39, e39, h⟩ := vI_elim h
                    exact h
                  · intro k0 σ w h
                    obtain ⟨x0, e0, h⟩ := vI_elim h
                    obtain ⟨x5A, x5n, x5c, e5, h⟩ := vS_elim h
                    obtain ⟨x8A, x8n, x8c, e8, h⟩ := vS_elim h
                    obtain ⟨x37A, x37n, x37c, e37, h⟩ := vS_elim h
                    obtain ⟨x38, e38, h⟩ := vI_elim h
                    obtain ⟨x39, e39, h⟩ := vI_elim h
                    refine J.sub ?_ (((((((Sub.base _).upd e0).upd e5).upd e8).upd e37).upd e38).upd e39)
                    clear e0 e5 e8 e37 e38 e39
                    refine J_seq (fun σ w => vI .i64 (σ 0) fun x0 => vS (σ 5) fun x5A x5n x5c => vS (σ 8) fun x8A x8n x8c => vS (σ 37) fun x37A x37n x37c => vI .i64 (σ 38) fun x38 => vI .i64 (σ 39) fun x39 => vB (σ 40) fun x40 => law13_SlideTight.p7 (law13_SlideTight.l0 K k0) K x0 x5A x5n x5c x8A x8n x8c x37A x37n x37c x38 x39 x40 w) ?_ ?_
                    ·
                      exact sh_sound _ _ _ _ (Eq.mp (by kernel_rfl) h)
                    · intro σ w h
                      obtain ⟨x0, e0, h⟩ := vI_elim h
                      obtain ⟨x5A, x5n, x5c, e5, h⟩ := vS_elim h
                      obtain ⟨x8A, x8n, x8c, e8, h⟩ := vS_elim h
                      obtain ⟨x37A, x37n, x37c, e37, h⟩ := vS_elim h
                      obtain ⟨x38, e38, h⟩ := vI_elim h
                      obtain ⟨x39, e39, h⟩ := vI_elim h
                      obtain ⟨x40, e40, h⟩ := vB_elim h
                      refine J.sub ?_ ((((((((Sub.base _).upd e0).upd e5).upd e8).upd e37).upd e38).upd e39).upd e40)
                      clear e0 e5 e8 e37 e38 e39 e40
                      refine J_seq (fun σ w => vI .i64 (σ 0) fun x0 => vS (σ 5) fun x5A x5n x5c => vS (σ 8) fun x8A x8n x8c => vS (σ 37) fun x37A x37n x37c => vI .i64 (σ 38) fun x38 => vI .i64 (σ 39) fun x39 => law13_SlideTight.p8 (law13_SlideTight.l0 K k0) K x0 x5A x5n x5c x8A x8n x8c x37A x37n x37c x38 x39 w) ?_ ?_
                      ·
                        exact sh_sound _ _ _ _ (Eq.mp (by kernel_rfl) h)
                      · intro σ w h
                        obtain ⟨x0, e0, h⟩ := vI_elim h
                        obtain ⟨x5A, x5n, x5c, e5, h⟩ := vS_elim h
                        obtain ⟨x8A, x8n, x8c, e8, h⟩ := vS_elim h
                        obtain ⟨x37A, x37n, x37c, e37, h⟩ := vS_elim h
                        obtain ⟨x38, e38, h⟩ := vI_elim h
                        obtain ⟨x39, e39, h⟩ := vI_elim h
                        refine J.sub ?_ (((((((Sub.base _).upd e0).upd e5).upd e8).upd e37).upd e38).upd e39)
                        clear e0 e5 e8 e37 e38 e39
                        refine J_seq (fun σ w => vI .i64 (σ 0) fun x0 => vS (σ 5) fun x5A x5n x5c => vS (σ 8) fun x8A x8n x8c => vS (σ 37) fun x37A x37n x37c => vI .i64 (σ 38) fun x38 => vI .i64 (σ 39) fun x39 => law13_SlideTight.p14 (law13_SlideTight.l0 K k0) K x0 x5A x5n x5c x8A x8n x8c x37A x37n x37c x38 x39 w) ?_ ?_
                        ·
                          refine J_block ?_
                          refine J_seq (fun σ w => vI .i64 (σ 0) fun x0 => vS (σ 5) fun x5A x5n x5c => vS (σ 8) fun x8A x8n x8c => vPa (σ 10) fun x10 => vS (σ 37) fun x37A x37n x37c => vI .i64 (σ 38) fun x38 => vI .i64 (σ 39) fun x39 => law13_SlideTight.p9 (law13_SlideTight.l0 K k0) K x0 x5A x5n x5c x8A x8n x8c x10 x37A x37n x37c x38 x39 w) ?_ ?_
                          ·
                            exact sh_sound _ _ _ _ (Eq.mp (by kernel_rfl) h)
                          · intro σ w h
                            obtain ⟨x0, e0, h⟩ := vI_elim h
                            obtain ⟨x5A, x5n, x5c, e5, h⟩ := vS_elim h
                            obtain ⟨x8A, x8n, x8c, e8, h⟩ := vS_elim h
                            obtain ⟨x10, e10, h⟩ := vPa_elim h
                            obtain ⟨x37A, x37n, x37c, e37, h⟩ := vS_elim h
                            obtain ⟨x38, e38, h⟩ := vI_elim h
                            obtain ⟨x39, e39, h⟩ := vI_elim h
                            refine J.sub ?_ ((((((((Sub.base _).upd e0).upd e5).upd e8).upd e10).upd e37).upd e38).upd e39)
                            clear e0 e5 e8 e10 e37 e38 e39
                            refine J_seq (fun σ w => vI .i64 (σ 0) fun x0 => vS (σ 5) fun x5A x5n x5c => vS (σ 8) fun x8A x8n x8c => vPa (σ 10) fun x10 => vS (σ 37) fun x37A x37n x37c => vI .i64 (σ 38) fun x38 => vI .i64 (σ 39) fun x39 => vI .i64 (σ 45) fun x45 => vI .i64 (σ 46) fun x46 => law13_SlideTight.p10 (law13_SlideTight.l0 K k0) K x0 x5A x5n x5c x8A x8n x8c x10 x37A x37n x37c x38 x39 x45 x46 w) ?_ ?_
                            ·
                              exact sh_sound _ _ _ _ (Eq.mp (by kernel_rfl) h)
                            · intro σ w h
                              obtain ⟨x0, e0, h⟩ := vI_elim h
                              obtain ⟨x5A, x5n, x5c, e5, h⟩ := vS_elim h
                              obtain ⟨x8A, x8n, x8c, e8, h⟩ := vS_elim h
                              obtain ⟨x10, e10, h⟩ := vPa_elim h
                              obtain ⟨x37A, x37n, x37c, e37, h⟩ := vS_elim h
                              obtain ⟨x38, e38, h⟩ := vI_elim h
                              obtain ⟨x39, e39, h⟩ := vI_elim h
                              obtain ⟨x45, e45, h⟩ := vI_elim h
                              obtain ⟨x46, e46, h⟩ := vI_elim h
                              refine J.sub ?_ ((((((((((Sub.base _).upd e0).upd e5).upd e8).upd e10).upd e37).upd e38).upd e39).upd e45).upd e46)
                              clear e0 e5 e8 e10 e37 e38 e39 e45 e46
                              refine J_block ?_
                              refine J_loop (fun k σ w => vI .i64 (σ 0) fun x0 => vS (σ 5) fun x5A x5n x5c => vS (σ 8) fun x8A x8n x8c => vPa (σ 10) fun x10 => vS (σ 37) fun x37A x37n x37c => vI .i64 (σ 38) fun x38 => vI .i64 (σ 39) fun x39 => vI .i64 (σ 45) fun x45 => vI .i64 (σ 46) fun x46 => law13_SlideTight.l1 (law13_SlideTight.l0 K k0) K k x0 x5A x5n x5c x8A x8n x8c x10 x37A x37n x37c x38 x39 x45 x46 w) (Eq.mp (by kernel_rfl) h) ?_ ?_
                              · intro σ w h
                                obtain ⟨x0, e0, h⟩ := vI_elim h
                                obtain ⟨x5A, x5n, x5c, e5, h⟩ := vS_elim h
                                obtain ⟨x8A, x8n, x8c, e8, h⟩ := vS_elim h
                                obtain ⟨x10, e10, h⟩ := vPa_elim h
                                obtain ⟨x37A, x37n, x37c, e37, h⟩ := vS_elim h
                                obtain ⟨x38, e38, h⟩ := vI_elim h
                                obtain ⟨x39, e39, h⟩ := vI_elim h
                                obtain ⟨x45, e45, h⟩ := vI_elim h
                                obtain ⟨x46, e46, h⟩ := vI_elim h
                                exact h
                              · intro k1 σ w h
                                obtain ⟨x0, e0, h⟩ := vI_elim h
                                obtain ⟨x5A, x5n, x5c, e5, h⟩ := vS_elim h
                                obtain ⟨x8A, x8n, x8c, e8, h⟩ := vS_elim h
                                obtain ⟨x10, e10, h⟩ := vPa_elim h
                                obtain ⟨x37A, x37n, x37c, e37, h⟩ := vS_elim h
                                obtain ⟨x38, e38, h⟩ := vI_elim h
                                obtain ⟨x39, e39, h⟩ := vI_elim h
                                obtain ⟨x45, e45, h⟩ := vI_elim h
                                obtain ⟨x46, e46, h⟩ := vI_elim h
                                refine J.sub ?_ ((((((((((Sub.base _).upd e0).upd e5).upd e8).upd e10).upd e37).upd e38).upd e39).upd e45).upd e46)
                                clear e0 e5 e8 e10 e37 e38 e39 e45 e46
                                refine J_seq (fun σ w => vI .i64 (σ 0) fun x0 => vS (σ 5) fun x5A x5n x5c => vS (σ 8) fun x8A x8n x8c => vPa (σ 10) fun x10 => vS (σ 37) fun x37A x37n x37c => vI .i64 (σ 38) fun x38 => vI .i64 (σ 39) fun x39 => vI .i64 (σ 45) fun x45 => vI .i64 (σ 46) fun x46 => vB (σ 47) fun x47 => law13_SlideTight.p11 (law13_SlideTight.l1 (law13_SlideTight.l0 K k0) K k1) (law13_SlideTight.l0 K k0) K x0 x5A x5n x5c x8A x8n x8c x10 x37A x37n x37c x38 x39 x45 x46 x47 w) ?_ ?_
                                ·
                                  exact sh_sound _ _ _ _ (Eq.mp (by kernel_rfl) h)
                                · intro σ w h
                                  obtain ⟨x0, e0, h⟩ := vI_elim h
                                  obtain ⟨x5A, x5n, x5c, e5, h⟩ := vS_elim h
                                  obtain ⟨x8A, x8n, x8c, e8, h⟩ := vS_elim h
                                  obtain ⟨x10, e10, h⟩ := vPa_elim h
                                  obtain ⟨x37A, x37n, x37c, e37, h⟩ := vS_elim h
                                  obtain ⟨x38, e38, h⟩ := vI_elim h
                                  obtain ⟨x39, e39, h⟩ := vI_elim h
                                  obtain ⟨x45, e45, h⟩ := vI_elim h
                                  obtain ⟨x46, e46, h⟩ := vI_elim h
                                  obtain ⟨x47, e47, h⟩ := vB_elim h
                                  refine J.sub ?_ (((((((((((Sub.base _).upd e0).upd e5).upd e8).upd e10).upd e37).upd e38).upd e39).upd e45).upd e46).upd e47)
                                  clear e0 e5 e8 e10 e37 e38 e39 e45 e46 e47
                                  refine J_seq (fun σ w => vI .i64 (σ 0) fun x0 => vS (σ 5) fun x5A x5n x5c => vS (σ 8) fun x8A x8n x8c => vPa (σ 10) fun x10 => vS (σ 37) fun x37A x37n x37c => vI .i64 (σ 38) fun x38 => vI .i64 (σ 39) fun x39 => vI .i64 (σ 45) fun x45 => vI .i64 (σ 46) fun x46 => law13_SlideTight.p12 (law13_SlideTight.l1 (law13_SlideTight.l0 K k0) K k1) (law13_SlideTight.l0 K k0) K x0 x5A x5n x5c x8A x8n x8c x10 x37A x37n x37c x38 x39 x45 x46 w) ?_ ?_
                                  ·
                                    exact sh_sound _ _ _ _ (Eq.mp (by kernel_rfl) h)
                                  · intro σ w h
                                    obtain ⟨x0, e0, h⟩ := vI_elim h
                                    obtain ⟨x5A, x5n, x5c, e5, h⟩ := vS_elim h
                                    obtain ⟨x8A, x8n, x8c, e8, h⟩ := vS_elim h
                                    obtain ⟨x10, e10, h⟩ := vPa_elim h
                                    obtain ⟨x37A, x37n, x37c, e37, h⟩ := vS_elim h
                                    obtain ⟨x38, e38, h⟩ := vI_elim h
                                    obtain ⟨x39, e39, h⟩ := vI_elim h
                                    obtain ⟨x45, e45, h⟩ := vI_elim h
                                    obtain ⟨x46, e46, h⟩ := vI_elim h
                                    refine J.sub ?_ ((((((((((Sub.base _).upd e0).upd e5).upd e8).upd e10).upd e37).upd e38).upd e39).upd e45).upd e46)
                                    clear e0 e5 e8 e10 e37 e38 e39 e45 e46
                                    refine J_seq (fun σ w => vI .i64 (σ 0) fun x0 => vS (σ 5) fun x5A x5n x5c => vS (σ 8) fun x8A x8n x8c => vPa (σ 10) fun x10 => vS (σ 37) fun x37A x37n x37c => vI .i64 (σ 38) fun x38 => vI .i64 (σ 39) fun x39 => vI .i64 (σ 45) fun x45 => vI .i64 (σ 46) fun x46 => law13_SlideTight.p13 (law13_SlideTight.l1 (law13_SlideTight.l0 K k0) K k1) (law13_SlideTight.l0 K k0) K x0 x5A x5n x5c x8A x8n x8c x10 x37A x37n x37c x38 x39 x45 x46 w) ?_ ?_
                                    ·
                                      refine J_block ?_
                                      exact J_held [] [(0, 0), (1, 0), (3, 0), (2, 1), (4, 1), (5, 2), (6, 0), (7, 2), (8, 2), (9, 0)] (by kernel_rfl) (Eq.mp (by kernel_rfl) h)
                                    · intro σ w h
                                      obtain ⟨x0, e0, h⟩ := vI_elim h
                                      obtain ⟨x5A, x5n, x5c, e5, h⟩ := vS_elim h
                                      obtain ⟨x8A, x8n, x8c, e8, h⟩ := vS_elim h
                                      obtain ⟨x10, e10, h⟩ := vPa_elim h
                                      obtain ⟨x37A, x37n, x37c, e37, h⟩ := vS_elim h
                                      obtain ⟨x38, e38, h⟩ := vI_elim h
                                      obtain ⟨x39, e39, h⟩ := vI_elim h
                                      obtain ⟨x45, e45, h⟩ := vI_elim h
                                      obtain ⟨x46, e46, h⟩ := vI_elim h
                                      refine J.sub ?_ ((((((((((Sub.base _).upd e0).upd e5).upd e8).upd e10).upd e37).upd e38).upd e39).upd e45).upd e46)
                                      clear e0 e5 e8 e10 e37 e38 e39 e45 e46
                                      exact sh_sound _ _ _ _ (Eq.mp (by kernel_rfl) h)
                        · intro σ w h
                          obtain ⟨x0, e0, h⟩ := vI_elim h
                          obtain ⟨x5A, x5n, x5c, e5, h⟩ := vS_elim h
                          obtain ⟨x8A, x8n, x8c, e8, h⟩ := vS_elim h
                          obtain ⟨x37A, x37n, x37c, e37, h⟩ := vS_elim h
                          obtain ⟨x38, e38, h⟩ := vI_elim h
                          obtain ⟨x39, e39, h⟩ := vI_elim h
                          refine J.sub ?_ (((((((Sub.base _).upd e0).upd e5).upd e8).upd e37).upd e38).upd e39)
                          clear e0 e5 e8 e37 e38 e39
                          exact sh_sound _ _ _ _ (Eq.mp (by kernel_rfl) h)
              · intro σ w h
                obtain ⟨x0, e0, h⟩ := vI_elim h
                obtain ⟨x5A, x5n, x5c, e5, h⟩ := vS_elim h
                obtain ⟨x8A, x8n, x8c, e8, h⟩ := vS_elim h
                refine J.sub ?_ ((((Sub.base _).upd e0).upd e5).upd e8)
                clear e0 e5 e8
                refine J_seq (fun σ w => vI .i64 (σ 0) fun x0 => vS (σ 5) fun x5A x5n x5c => vS (σ 8) fun x8A x8n x8c => vI .i64 (σ 11) fun x11 => law13_SlideTight.p16 K x0 x5A x5n x5c x8A x8n x8c x11 w) ?_ ?_
                ·
                  exact sh_sound _ _ _ _ (Eq.mp (by kernel_rfl) h)
                · intro σ w h
                  obtain ⟨x0, e0, h⟩ := vI_elim h
                  obtain ⟨x5A, x5n, x5c, e5, h⟩ := vS_elim h
                  obtain ⟨x8A, x8n, x8c, e8, h⟩ := vS_elim h
                  obtain ⟨x11, e11, h⟩ := vI_elim h
                  refine J.sub ?_ (((((Sub.base _).upd e0).upd e5).upd e8).upd e11)
                  clear e0 e5 e8 e11
                  refine J_seq (fun σ w => vI .i64 (σ 0) fun x0 => vS (σ 5) fun x5A x5n x5c => vS (σ 8) fun x8A x8n x8c => vI .i64 (σ 11) fun x11 => vPa (σ 12) fun x12 => law13_SlideTight.p17 K x0 x5A x5n x5c x8A x8n x8c x11 x12 w) ?_ ?_
                  ·
                    exact sh_sound _ _ _ _ (Eq.mp (by kernel_rfl) h)
                  · intro σ w h
                    obtain ⟨x0, e0, h⟩ := vI_elim h
                    obtain ⟨x5A, x5n, x5c, e5, h⟩ := vS_elim h
                    obtain ⟨x8A, x8n, x8c, e8, h⟩ := vS_elim h
                    obtain ⟨x11, e11, h⟩ := vI_elim h
                    obtain ⟨x12, e12, h⟩ := vPa_elim h
                    refine J.sub ?_ ((((((Sub.base _).upd e0).upd e5).upd e8).upd e11).upd e12)
                    clear e0 e5 e8 e11 e12
                    refine J_seq (fun σ w => vI .i64 (σ 0) fun x0 => vS (σ 5) fun x5A x5n x5c => vS (σ 8) fun x8A x8n x8c => vI .i64 (σ 11) fun x11 => vPa (σ 12) fun x12 => law13_SlideTight.p26 K x0 x5A x5n x5c x8A x8n x8c x11 x12 w) ?_ ?_
                    ·
                      refine J_seq (fun σ w => vI .i64 (σ 0) fun x0 => vS (σ 5) fun x5A x5n x5c => vS (σ 8) fun x8A x8n x8c => vI .i64 (σ 11) fun x11 => vPa (σ 12) fun x12 => vS (σ 59) fun x59A x59n x59c => vI .i64 (σ 60) fun x60 => vI .i64 (σ 61) fun x61 => law13_SlideTight.p18 K x0 x5A x5n x5c x8A x8n x8c x11 x12 x59A x59n x59c x60 x61 w) ?_ ?_
                      ·
                        exact sh_sound _ _ _ _ (Eq.mp (by kernel_rfl) h)
                      · intro σ w h
                        obtain ⟨x0, e0, h⟩ := vI_elim h
                        obtain ⟨x5A, x5n, x5c, e5, h⟩ := vS_elim h
                        obtain ⟨x8A, x8n, x8c, e8, h⟩ := vS_elim h
                        obtain ⟨x11, e11, h⟩ := vI_elim h
                        obtain ⟨x12, e12, h⟩ := vPa_elim h
                        obtain ⟨x59A, x59n, x59c, e59, h⟩ := vS_elim h
                        obtain ⟨x60, e60, h⟩ := vI_elim h
                        obtain ⟨x61, e61, h⟩ := vI_elim h
                        refine J.sub ?_ (((((((((Sub.base _).upd e0).upd e5).upd e8).upd e11).upd e12).upd e59).upd e60).upd e61)
                        clear e0 e5 e8 e11 e12 e59 e60 e61
                        refine J_block ?_
                        refine J_loop (fun k σ w => vI .i64 (σ 0) fun x0 => vS (σ 5) fun x5A x5n x5c => vS (σ 8) fun x8A x8n x8c => vI .i64 (σ 11) fun x11 => vPa (σ 12) fun x12 => vS (σ 59) fun x59A x59n x59c => vI .i64 (σ 60) fun x60 => vI .i64 (σ 61) fun x61 => law13_SlideTight.l2 K k x0 x5A x5n x5c x8A x8n x8c x11 x12 x59A x59n x59c x60 x61 w) (Eq.mp (by kernel_rfl) h) ?_ ?_
                        · intro σ w h
                          obtain ⟨x0, e0, h⟩ := vI_elim h
                          obtain ⟨x5A, x5n, x5c, e5, h⟩ := vS_elim h
                          obtain ⟨x8A, x8n, x8c, e8, h⟩ := vS_elim h
                          obtain ⟨x11, e11, h⟩ := vI_elim h
                          obtain ⟨x12, e12, h⟩ := vPa_elim h
                          obtain ⟨x59A, x59n, x59c, e59, h⟩ := vS_elim h
                          obtain ⟨x60, e60, h⟩ := vI_elim h
                          obtain ⟨x61, e61, h⟩ := vI_elim h
                          exact h
                        · intro k2 σ w h
                          obtain ⟨x0, e0, h⟩ := vI_elim h
                          obtain ⟨x5A, x5n, x5c, e5, h⟩ := vS_elim h
                          obtain ⟨x8A, x8n, x8c, e8, h⟩ := vS_elim h
                          obtain ⟨x11, e11, h⟩ := vI_elim h
                          obtain ⟨x12, e12, h⟩ := vPa_elim h
                          obtain ⟨x59A, x59n, x59c, e59, h⟩ := vS_elim h
                          obtain ⟨x60, e60, h⟩ := vI_elim h
                          obtain ⟨x61, e61, h⟩ := vI_elim h
                          refine J.sub ?_ (((((((((Sub.base _).upd e0).upd e5).upd e8).upd e11).upd e12).upd e59).upd e60).upd e61)
                          clear e0 e5 e8 e11 e12 e59 e60 e61
                          refine J_seq (fun σ w => vI .i64 (σ 0) fun x0 => vS (σ 5) fun x5A x5n x5c => vS (σ 8) fun x8A x8n x8c => vI .i64 (σ 11) fun x11 => vPa (σ 12) fun x12 => vS (σ 59) fun x59A x59n x59c => vI .i64 (σ 60) fun x60 => vI .i64 (σ 61) fun x61 => vB (σ 62) fun x62 => law13_SlideTight.p19 (law13_SlideTight.l2 K k2) K x0 x5A x5n x5c x8A x8n x8c x11 x12 x59A x59n x59c x60 x61 x62 w) ?_ ?_
                          ·
                            exact sh_sound _ _ _ _ (Eq.mp (by kernel_rfl) h)
                          · intro σ w h
                            obtain ⟨x0, e0, h⟩ := vI_elim h
                            obtain ⟨x5A, x5n, x5c, e5, h⟩ := vS_elim h
                            obtain ⟨x8A, x8n, x8c, e8, h⟩ := vS_elim h
                            obtain ⟨x11, e11, h⟩ := vI_elim h
                            obtain ⟨x12, e12, h⟩ := vPa_elim h
                            obtain ⟨x59A, x59n, x59c, e59, h⟩ := vS_elim h
                            obtain ⟨x60, e60, h⟩ := vI_elim h
                            obtain ⟨x61, e61, h⟩ := vI_elim h
                            obtain ⟨x62, e62, h⟩ := vB_elim h
                            refine J.sub ?_ ((((((((((Sub.base _).upd e0).upd e5).upd e8).upd e11).upd e12).upd e59).upd e60).upd e61).upd e62)
                            clear e0 e5 e8 e11 e12 e59 e60 e61 e62
                            refine J_seq (fun σ w => vI .i64 (σ 0) fun x0 => vS (σ 5) fun x5A x5n x5c => vS (σ 8) fun x8A x8n x8c => vI .i64 (σ 11) fun x11 => vPa (σ 12) fun x12 => vS (σ 59) fun x59A x59n x59c => vI .i64 (σ 60) fun x60 => vI .i64 (σ 61) fun x61 => law13_SlideTight.p20 (law13_SlideTight.l2 K k2) K x0 x5A x5n x5c x8A x8n x8c x11 x12 x59A x59n x59c x60 x61 w) ?_ ?_
                            ·
                              exact sh_sound _ _ _ _ (Eq.mp (by kernel_rfl) h)
                            · intro σ w h
                              obtain ⟨x0, e0, h⟩ := vI_elim h
                              obtain ⟨x5A, x5n, x5c, e5, h⟩ := vS_elim h
                              obtain ⟨x8A, x8n, x8c, e8, h⟩ := vS_elim h
                              obtain ⟨x11, e11, h⟩ := vI_elim h
                              obtain ⟨x12, e12, h⟩ := vPa_elim h
                              obtain ⟨x59A, x59n, x59c, e59, h⟩ := vS_elim h
                              obtain ⟨x60, e60, h⟩ := vI_elim h
                              obtain ⟨x61, e61, h⟩ := vI_elim h
                              refine J.sub ?_ (((((((((Sub.base _).upd e0).upd e5).upd e8).upd e11).upd e12).upd e59).upd e60).upd e61)
                              clear e0 e5 e8 e11 e12 e59 e60 e61
                              refine J_seq (fun σ w => vI .i64 (σ 0) fun x0 => vS (σ 5) fun x5A x5n x5c => vS (σ 8) fun x8A x8n x8c => vI .i64 (σ 11) fun x11 => vPa (σ 12) fun x12 => vS (σ 59) fun x59A x59n x59c => vI .i64 (σ 60) fun x60 => vI .i64 (σ 61) fun x61 => law13_SlideTight.p25 (law13_SlideTight.l2 K k2) K x0 x5A x5n x5c x8A x8n x8c x11 x12 x59A x59n x59c x60 x61 w) ?_ ?_
                              ·
                                refine J_block ?_
                                refine J_seq (fun σ w => vI .i64 (σ 0) fun x0 => vS (σ 5) fun x5A x5n x5c => vS (σ 8) fun x8A x8n x8c => vI .i64 (σ 11) fun x11 => vPa (σ 12) fun x12 => vPa (σ 14) fun x14 => vS (σ 59) fun x59A x59n x59c => vI .i64 (σ 60) fun x60 => vI .i64 (σ 61) fun x61 => law13_SlideTight.p21 (law13_SlideTight.l2 K k2) K x0 x5A x5n x5c x8A x8n x8c x11 x12 x14 x59A x59n x59c x60 x61 w) ?_ ?_
                                ·
                                  exact sh_sound _ _ _ _ (Eq.mp (by kernel_rfl) h)
                                · intro σ w h
                                  obtain ⟨x0, e0, h⟩ := vI_elim h
                                  obtain ⟨x5A, x5n, x5c, e5, h⟩ := vS_elim h
                                  obtain ⟨x8A, x8n, x8c, e8, h⟩ := vS_elim h
                                  obtain ⟨x11, e11, h⟩ := vI_elim h
                                  obtain ⟨x12, e12, h⟩ := vPa_elim h
                                  obtain ⟨x14, e14, h⟩ := vPa_elim h
                                  obtain ⟨x59A, x59n, x59c, e59, h⟩ := vS_elim h
                                  obtain ⟨x60, e60, h⟩ := vI_elim h
                                  obtain ⟨x61, e61, h⟩ := vI_elim h
                                  refine J.sub ?_ ((((((((((Sub.base _).upd e0).upd e5).upd e8).upd e11).upd e12).upd e14).upd e59).upd e60).upd e61)
                                  clear e0 e5 e8 e11 e12 e14 e59 e60 e61
                                  refine J_seq (fun σ w => vI .i64 (σ 0) fun x0 => vS (σ 5) fun x5A x5n x5c => vS (σ 8) fun x8A x8n x8c => vI .i64 (σ 11) fun x11 => vPa (σ 12) fun x12 => vPa (σ 14) fun x14 => vP (σ 15) fun x15 => vI .i64 (σ 16) fun x16 => vS (σ 59) fun x59A x59n x59c => vI .i64 (σ 60) fun x60 => vI .i64 (σ 61) fun x61 => law13_SlideTight.p22 (law13_SlideTight.l2 K k2) K x0 x5A x5n x5c x8A x8n x8c x11 x12 x14 x15 x16 x59A x59n x59c x60 x61 w) ?_ ?_
                                  ·
                                    exact sh_sound _ _ _ _ (Eq.mp (by kernel_rfl) h)
                                  · intro σ w h
                                    obtain ⟨x0, e0, h⟩ := vI_elim h
                                    obtain ⟨x5A, x5n, x5c, e5, h⟩ := vS_elim h
                                    obtain ⟨x8A, x8n, x8c, e8, h⟩ := vS_elim h
                                    obtain ⟨x11, e11, h⟩ := vI_elim h
                                    obtain ⟨x12, e12, h⟩ := vPa_elim h
                                    obtain ⟨x14, e14, h⟩ := vPa_elim h
                                    obtain ⟨x15, e15, h⟩ := vP_elim h
                                    obtain ⟨x16, e16, h⟩ := vI_elim h
                                    obtain ⟨x59A, x59n, x59c, e59, h⟩ := vS_elim h
                                    obtain ⟨x60, e60, h⟩ := vI_elim h
                                    obtain ⟨x61, e61, h⟩ := vI_elim h
                                    refine J.sub ?_ ((((((((((((Sub.base _).upd e0).upd e5).upd e8).upd e11).upd e12).upd e14).upd e15).upd e16).upd e59).upd e60).upd e61)
                                    clear e0 e5 e8 e11 e12 e14 e15 e16 e59 e60 e61
                                    refine J_seq (fun σ w => vI .i64 (σ 0) fun x0 => vS (σ 5) fun x5A x5n x5c => vS (σ 8) fun x8A x8n x8c => vI .i64 (σ 11) fun x11 => vPa (σ 12) fun x12 => vPa (σ 14) fun x14 => vP (σ 15) fun x15 => vS (σ 59) fun x59A x59n x59c => vI .i64 (σ 60) fun x60 => vI .i64 (σ 61) fun x61 => law13_SlideTight.p24 (law13_SlideTight.l2 K k2) K x0 x5A x5n x5c x8A x8n x8c x11 x12 x14 x15 x59A x59n x59c x60 x61 w) ?_ ?_
                                    ·
                                      refine J_seq (fun σ w => vI .i64 (σ 0) fun x0 => vS (σ 5) fun x5A x5n x5c => vS (σ 8) fun x8A x8n x8c => vI .i64 (σ 11) fun x11 => vPa (σ 12) fun x12 => vPa (σ 14) fun x14 => vP (σ 15) fun x15 => vS (σ 59) fun x59A x59n x59c => vI .i64 (σ 60) fun x60 => vI .i64 (σ 61) fun x61 => vB (σ 82) fun x82 => law13_SlideTight.p23 (law13_SlideTight.l2 K k2) K x0 x5A x5n x5c x8A x8n x8c x11 x12 x14 x15 x59A x59n x59c x60 x61 x82 w) ?_ ?_
                                      ·
                                        exact sh_sound _ _ _ _ (Eq.mp (by kernel_rfl) h)
                                      · intro σ w h
                                        obtain ⟨x0, e0, h⟩ := vI_elim h
                                        obtain ⟨x5A, x5n, x5c, e5, h⟩ := vS_elim h
                                        obtain ⟨x8A, x8n, x8c, e8, h⟩ := vS_elim h
                                        obtain ⟨x11, e11, h⟩ := vI_elim h
                                        obtain ⟨x12, e12, h⟩ := vPa_elim h
                                        obtain ⟨x14, e14, h⟩ := vPa_elim h
                                        obtain ⟨x15, e15, h⟩ := vP_elim h
                                        obtain ⟨x59A, x59n, x59c, e59, h⟩ := vS_elim h
                                        obtain ⟨x60, e60, h⟩ := vI_elim h
                                        obtain ⟨x61, e61, h⟩ := vI_elim h
                                        obtain ⟨x82, e82, h⟩ := vB_elim h
                                        refine J.sub ?_ ((((((((((((Sub.base _).upd e0).upd e5).upd e8).upd e11).upd e12).upd e14).upd e15).upd e59).upd e60).upd e61).upd e82)
                                        clear e0 e5 e8 e11 e12 e14 e15 e59 e60 e61 e82
                                        exact sh_sound _ _ _ _ (Eq.mp (by kernel_rfl) h)
                                    · intro σ w h
                                      obtain ⟨x0, e0, h⟩ := vI_elim h
                                      obtain ⟨x5A, x5n, x5c, e5, h⟩ := vS_elim h
                                      obtain ⟨x8A, x8n, x8c, e8, h⟩ := vS_elim h
                                      obtain ⟨x11, e11, h⟩ := vI_elim h
                                      obtain ⟨x12, e12, h⟩ := vPa_elim h
                                      obtain ⟨x14, e14, h⟩ := vPa_elim h
                                      obtain ⟨x15, e15, h⟩ := vP_elim h
                                      obtain ⟨x59A, x59n, x59c, e59, h⟩ := vS_elim h
                                      obtain ⟨x60, e60, h⟩ := vI_elim h
                                      obtain ⟨x61, e61, h⟩ := vI_elim h
                                      refine J.sub ?_ (((((((((((Sub.base _).upd e0).upd e5).upd e8).upd e11).upd e12).upd e14).upd e15).upd e59).upd e60).upd e61)
                                      clear e0 e5 e8 e11 e12 e14 e15 e59 e60 e61
                                      exact sh_sound _ _ _ _ (Eq.mp (by kernel_rfl) h)
                              · intro σ w h
                                obtain ⟨x0, e0, h⟩ := vI_elim h
                                obtain ⟨x5A, x5n, x5c, e5, h⟩ := vS_elim h
                                obtain ⟨x8A, x8n, x8c, e8, h⟩ := vS_elim h
                                obtain ⟨x11, e11, h⟩ := vI_elim h
                                obtain ⟨x12, e12, h⟩ := vPa_elim h
                                obtain ⟨x59A, x59n, x59c, e59, h⟩ := vS_elim h
                                obtain ⟨x60, e60, h⟩ := vI_elim h
                                obtain ⟨x61, e61, h⟩ := vI_elim h
                                refine J.sub ?_ (((((((((Sub.base _).upd e0).upd e5).upd e8).upd e11).upd e12).upd e59).upd e60).upd e61)
                                clear e0 e5 e8 e11 e12 e59 e60 e61
                                exact sh_sound _ _ _ _ (Eq.mp (by kernel_rfl) h)
                    · intro σ w h
                      obtain ⟨x0, e0, h⟩ := vI_elim h
                      obtain ⟨x5A, x5n, x5c, e5, h⟩ := vS_elim h
                      obtain ⟨x8A, x8n, x8c, e8, h⟩ := vS_elim h
                      obtain ⟨x11, e11, h⟩ := vI_elim h
                      obtain ⟨x12, e12, h⟩ := vPa_elim h
                      refine J.sub ?_ ((((((Sub.base _).upd e0).upd e5).upd e8).upd e11).upd e12)
                      clear e0 e5 e8 e11 e12
                      refine J_seq (fun σ w => vI .i64 (σ 0) fun x0 => vS (σ 5) fun x5A x5n x5c => vS (σ 8) fun x8A x8n x8c => vI .i64 (σ 11) fun x11 => law13_SlideTight.p28 K x0 x5A x5n x5c x8A x8n x8c x11 w) ?_ ?_
                      ·
                        refine J_seq (fun σ w => vI .i64 (σ 0) fun x0 => vS (σ 5) fun x5A x5n x5c => vS (σ 8) fun x8A x8n x8c => vI .i64 (σ 11) fun x11 => vA (σ 99) fun le99 => vC le99 fun ue99_0 re99_0 => vI .i64 ue99_0 fun x99_0 => vC re99_0 fun ue99_1 re99_1 => vI .i64 ue99_1 fun x99_1 => vC re99_1 fun ue99_2 re99_2 => vI .i64 ue99_2 fun x99_2 => vC re99_2 fun ue99_3 re99_3 => vI .i64 ue99_3 fun x99_3 => vC re99_3 fun ue99_4 re99_4 => vI .i64 ue99_4 fun x99_4 => vC re99_4 fun ue99_5 re99_5 => vI .i64 ue99_5 fun x99_5 => vC re99_5 fun ue99_6 re99_6 => vI .i64 ue99_6 fun x99_6 => vC re99_6 fun ue99_7 re99_7 => vI .i64 ue99_7 fun x99_7 => vN re99_7 <| vI .i64 (σ 100) fun x100 => law13_SlideTight.p27 K x0 x5A x5n x5c x8A x8n x8c x11 x99_0 x99_1 x99_2 x99_3 x99_4 x99_5 x99_6 x99_7 x100 w) ?_ ?_
                        ·
                          exact sh_sound _ _ _ _ (Eq.mp (by kernel_rfl) h)
                        · intro σ w h
                          obtain ⟨x0, e0, h⟩ := vI_elim h
                          obtain ⟨x5A, x5n, x5c, e5, h⟩ := vS_elim h
                          obtain ⟨x8A, x8n, x8c, e8, h⟩ := vS_elim h
                          obtain ⟨x11, e11, h⟩ := vI_elim h
                          obtain ⟨le99, e99, h⟩ := vA_elim h
                          obtain ⟨ue99_0, re99_0, qe99_0, h⟩ := vC_elim h
                          obtain ⟨x99_0, ze99_0, h⟩ := vI_elim h
                          obtain ⟨ue99_1, re99_1, qe99_1, h⟩ := vC_elim h
                          obtain ⟨x99_1, ze99_1, h⟩ := vI_elim h
                          obtain ⟨ue99_2, re99_2, qe99_2, h⟩ := vC_elim h
                          obtain ⟨x99_2, ze99_2, h⟩ := vI_elim h
                          obtain ⟨ue99_3, re99_3, qe99_3, h⟩ := vC_elim h
                          obtain ⟨x99_3, ze99_3, h⟩ := vI_elim h
                          obtain ⟨ue99_4, re99_4, qe99_4, h⟩ := vC_elim h
                          obtain ⟨x99_4, ze99_4, h⟩ := vI_elim h
                          obtain ⟨ue99_5, re99_5, qe99_5, h⟩ := vC_elim h
                          obtain ⟨x99_5, ze99_5, h⟩ := vI_elim h
                          obtain ⟨ue99_6, re99_6, qe99_6, h⟩ := vC_elim h
                          obtain ⟨x99_6, ze99_6, h⟩ := vI_elim h
                          obtain ⟨ue99_7, re99_7, qe99_7, h⟩ := vC_elim h
                          obtain ⟨x99_7, ze99_7, h⟩ := vI_elim h
                          obtain ⟨qe99, h⟩ := vN_elim h
                          subst qe99; subst ze99_7; subst qe99_7; subst ze99_6; subst qe99_6; subst ze99_5; subst qe99_5; subst ze99_4; subst qe99_4; subst ze99_3; subst qe99_3; subst ze99_2; subst qe99_2; subst ze99_1; subst qe99_1; subst ze99_0; subst qe99_0
                          obtain ⟨x100, e100, h⟩ := vI_elim h
                          refine J.sub ?_ (((((((Sub.base _).upd e0).upd e5).upd e8).upd e11).upd e99).upd e100)
                          clear e0 e5 e8 e11 e99 e100
                          refine J_block ?_
                          refine J_loop (fun k σ w => vI .i64 (σ 0) fun x0 => vS (σ 5) fun x5A x5n x5c => vS (σ 8) fun x8A x8n x8c => vI .i64 (σ 11) fun x11 => vA (σ 99) fun le99 => vC le99 fun ue99_0 re99_0 => vI .i64 ue99_0 fun x99_0 => vC re99_0 fun ue99_1 re99_1 => vI .i64 ue99_1 fun x99_1 => vC re99_1 fun ue99_2 re99_2 => vI .i64 ue99_2 fun x99_2 => vC re99_2 fun ue99_3 re99_3 => vI .i64 ue99_3 fun x99_3 => vC re99_3 fun ue99_4 re99_4 => vI .i64 ue99_4 fun x99_4 => vC re99_4 fun ue99_5 re99_5 => vI .i64 ue99_5 fun x99_5 => vC re99_5 fun ue99_6 re99_6 => vI .i64 ue99_6 fun x99_6 => vC re99_6 fun ue99_7 re99_7 => vI .i64 ue99_7 fun x99_7 => vN re99_7 <| vI .i64 (σ 100) fun x100 => law13_SlideTight.l3 K k x0 x5A x5n x5c x8A x8n x8c x11 x99_0 x99_1 x99_2 x99_3 x99_4 x99_5 x99_6 x99_7 x100 w) (Eq.mp (by kernel_rfl) h) ?_ ?_
                          · intro σ w h
                            obtain ⟨x0, e0, h⟩ := vI_elim h
                            obtain ⟨x5A, x5n, x5c, e5, h⟩ := vS_elim h
                            obtain ⟨x8A, x8n, x8c, e8, h⟩ := vS_elim h
                            obtain ⟨x11, e11, h⟩ := vI_elim h
                            obtain ⟨le99, e99, h⟩ := vA_elim h
                            obtain ⟨ue99_0, re99_0, qe99_0, h⟩ := vC_elim h
                            obtain ⟨x99_0, ze99_0, h⟩ := vI_elim h
                            obtain ⟨ue99_1, re99_1, qe99_1, h⟩ := vC_elim h
                            obtain ⟨x99_1, ze99_1, h⟩ := vI_elim h
                            obtain ⟨ue99_2, re99_2, qe99_2, h⟩ := vC_elim h
                            obtain ⟨x99_2, ze99_2, h⟩ := vI_elim h
                            obtain ⟨ue99_3, re99_3, qe99_3, h⟩ := vC_elim h
                            obtain ⟨x99_3, ze99_3, h⟩ := vI_elim h
                            obtain ⟨ue99_4, re99_4, qe99_4, h⟩ := vC_elim h
                            obtain ⟨x99_4, ze99_4, h⟩ := vI_elim h
                            obtain ⟨ue99_5, re99_5, qe99_5, h⟩ := vC_elim h
                            obtain ⟨x99_5, ze99_5, h⟩ := vI_elim h
                            obtain ⟨ue99_6, re99_6, qe99_6, h⟩ := vC_elim h
                            obtain ⟨x99_6, ze99_6, h⟩ := vI_elim h
                            obtain ⟨ue99_7, re99_7, qe99_7, h⟩ := vC_elim h
                            obtain ⟨x99_7, ze99_7, h⟩ := vI_elim h
                            obtain ⟨qe99, h⟩ := vN_elim h
                            subst qe99; subst ze99_7; subst qe99_7; subst ze99_6; subst qe99_6; subst ze99_5; subst qe99_5; subst ze99_4; subst qe99_4; subst ze99_3; subst qe99_3; subst ze99_2; subst qe99_2; subst ze99_1; subst qe99_1; subst ze99_0; subst qe99_0
                            obtain ⟨x100, e100, h⟩ := vI_elim h
                            exact h
                          · intro k3 σ w h
                            obtain ⟨x0, e0, h⟩ := vI_elim h
                            obtain ⟨x5A, x5n, x5c, e5, h⟩ := vS_elim h
                            obtain ⟨x8A, x8n, x8c, e8, h⟩ := vS_elim h
                            obtain ⟨x11, e11, h⟩ := vI_elim h
                            obtain ⟨le99, e99, h⟩ := vA_elim h
                            obtain ⟨ue99_0, re99_0, qe99_0, h⟩ := vC_elim h
                            obtain ⟨x99_0, ze99_0, h⟩ := vI_elim h
                            obtain ⟨ue99_1, re99_1, qe99_1, h⟩ := vC_elim h
                            obtain ⟨x99_1, ze99_1, h⟩ := vI_elim h
                            obtain ⟨ue99_2, re99_2, qe99_2, h⟩ := vC_elim h
                            obtain ⟨x99_2, ze99_2, h⟩ := vI_elim h
                            obtain ⟨ue99_3, re99_3, qe99_3, h⟩ := vC_elim h
                            obtain ⟨x99_3, ze99_3, h⟩ := vI_elim h
                            obtain ⟨ue99_4, re99_4, qe99_4, h⟩ := vC_elim h
                            obtain ⟨x99_4, ze99_4, h⟩ := vI_elim h
                            obtain ⟨ue99_5, re99_5, qe99_5, h⟩ := vC_elim h
                            obtain ⟨x99_5, ze99_5, h⟩ := vI_elim h
                            obtain ⟨ue99_6, re99_6, qe99_6, h⟩ := vC_elim h
                            obtain ⟨x99_6, ze99_6, h⟩ := vI_elim h
                            obtain ⟨ue99_7, re99_7, qe99_7, h⟩ := vC_elim h
                            obtain ⟨x99_7, ze99_7, h⟩ := vI_elim h
                            obtain ⟨qe99, h⟩ := vN_elim h
                            subst qe99; subst ze99_7; subst qe99_7; subst ze99_6; subst qe99_6; subst ze99_5; subst qe99_5; subst ze99_4; subst qe99_4; subst ze99_3; subst qe99_3; subst ze99_2; subst qe99_2; subst ze99_1; subst qe99_1; subst ze99_0; subst qe99_0
                            obtain ⟨x100, e100, h⟩ := vI_elim h
                            refine J.sub ?_ (((((((Sub.base _).upd e0).upd e5).upd e8).upd e11).upd e99).upd e100)
                            clear e0 e5 e8 e11 e99 e100
                            exact sh_sound _ _ _ _ (Eq.mp (by kernel_rfl) h)
                      · intro σ w h
                        obtain ⟨x0, e0, h⟩ := vI_elim h
                        obtain ⟨x5A, x5n, x5c, e5, h⟩ := vS_elim h
                        obtain ⟨x8A, x8n, x8c, e8, h⟩ := vS_elim h
                        obtain ⟨x11, e11, h⟩ := vI_elim h
                        refine J.sub ?_ (((((Sub.base _).upd e0).upd e5).upd e8).upd e11)
                        clear e0 e5 e8 e11
                        refine J_seq (fun σ w => vB (σ 4) fun x4 => law13_SlideTight.p29 K x4 w) ?_ ?_
                        ·
                          exact sh_sound _ _ _ _ (Eq.mp (by kernel_rfl) h)
                        · intro σ w h
                          obtain ⟨x4, e4, h⟩ := vB_elim h
                          refine J.sub ?_ ((Sub.base _).upd e4)
                          clear e4
                          exact sh_sound _ _ _ _ (Eq.mp (by kernel_rfl) h)

/-! ### hayloft/hayloftlaw13.alive: function 8 -/
abbrev law13_alive.p2 (K : Value → World → Prop) (x0 : Bool) (w : World) : Prop :=
  K (.bool x0) w
abbrev law13_alive.p1 (K : Value → World → Prop) (x1A : Option Addr) (x1n : Nat) (x1c : Nat) (x2A : Option Addr) (x2n : Nat) (x2c : Nat) (x3 : Int) (w : World) : Prop :=
  condP (x3 == (0 : Int)) (condP (((x1n : Nat) : Int) == (2 : Int)) ((0 ≤ (0 : Int) ∧ (0 : Int) < ((x1n : Nat) : Int)) ∧ ∃ (a14 : Addr), x1A = some a14 ∧ ∃ (A15 : Option Addr) (m16 : Nat) (c17 : Nat), w.cell? ((a14.add ((0 : Int).toNat * 4)).add 3) = some (.slice A15 m16 c17) ∧ condP (((m16 : Nat) : Int) == (3 : Int)) ((0 ≤ (1 : Int) ∧ (1 : Int) < ((x1n : Nat) : Int)) ∧ ∃ (a18 : Addr), x1A = some a18 ∧ ∃ (n19 : Int), w.cell? (a18.add ((1 : Int).toNat * 4)) = some (.int .i64 n19) ∧ condP (n19 == (1 : Int)) (condP (((x2n : Nat) : Int) == (5 : Int)) ((0 ≤ (2 : Int) ∧ (2 : Int) < ((x2n : Nat) : Int)) ∧ ∃ (a20 : Addr), x2A = some a20 ∧ ∃ (n21 : Int), w.cell? (a20.add ((2 : Int).toNat * 3)) = some (.int .i64 n21) ∧ ∃ (n22 : Int), w.cell? ((a20.add ((2 : Int).toNat * 3)).add 1) = some (.int .i64 n22) ∧ ∃ (n23 : Int), w.cell? ((a20.add ((2 : Int).toNat * 3)).add 2) = some (.int .i64 n23) ∧ ∃ (b24 : Bool), aggEq Tryd.prog .eql 25 (.agg #[.int .i64 n21, .int .i64 n22, .int .i64 n23]) (.agg #[.int .i64 1024, .int .i64 304, .int .i64 24]) (.bool b24) ∧ condP b24 (CallsE Tryd.prog 9 #[.int .i64 1024, .slice x2A x2n x2c] w (fun v25 w26 => ∃ (n27 : Int), v25 = .int .i64 n27 ∧ law13_alive.p2 K (n27 == (48 : Int)) w26)) (law13_alive.p2 K false w)) (law13_alive.p2 K false w)) (law13_alive.p2 K false w)) (law13_alive.p2 K false w)) (law13_alive.p2 K false w)) (law13_alive.p2 K false w)
abbrev law13_alive.p0 (K : Value → World → Prop) (w : World) : Prop :=
  wlet (w.alloc (.cells #[.int .i64 2, .int .i64 5] 3)) fun w1 => wlet (w1.alloc (.cells #[.int .i64 0] 3)) fun w2 => wlet (w2.alloc (.cells #[.int .i64 0] 3)) fun w3 => wlet (w3.alloc (.cells #[.int .i64 1, .int .i64 1, .int .i64 0, .slice (some ⟨w.heap.size, 0, none⟩) 2 2, .int .i64 4, .int .i64 1, .int .i64 0, .slice (some ⟨w1.heap.size, 0, none⟩) 1 1, .int .i64 6, .int .i64 7, .int .i64 300, .slice (some ⟨w2.heap.size, 0, none⟩) 1 1] 46)) fun w4 => CallsE Tryd.prog 12 #[.int .i64 9, .slice (some ⟨w3.heap.size, 0, none⟩) 3 3] w4 (fun v5 w6 => ∃ (A7 : Option Addr) (m8 : Nat) (c9 : Nat) (A10 : Option Addr) (m11 : Nat) (c12 : Nat) (n13 : Int), v5 = .tuple #[.slice A7 m8 c9, .slice A10 m11 c12, .int .i64 n13] ∧ law13_alive.p1 K A7 m8 c9 A10 m11 c12 n13 w6)
abbrev law13_alive.F (K : Value → World → Prop) (w : World) : Prop :=
  law13_alive.p0 K w
theorem law13_alive.ok {K : Value → World → Prop} {w : World} (h : law13_alive.F K w) :
    CallsE Tryd.prog 8 #[] w K := by
  refine calls_of_J (n := 55) (rs := [.tmp 0]) Tryd.func8 rfl rfl rfl rfl ?_
  refine J_seq (fun σ w => law13_alive.p0 K w) ?_ ?_
  ·
    exact sh_sound _ _ _ _ (Eq.mp (by kernel_rfl) h)
  · intro σ w h
    refine J.sub ?_ (Sub.base _)
    refine J_seq (fun σ w => vS (σ 1) fun x1A x1n x1c => vS (σ 2) fun x2A x2n x2c => vI .i64 (σ 3) fun x3 => law13_alive.p1 K x1A x1n x1c x2A x2n x2c x3 w) ?_ ?_
    ·
      exact sh_sound _ _ _ _ (Eq.mp (by kernel_rfl) h)
    · intro σ w h
      obtain ⟨x1A, x1n, x1c, e1, h⟩ := vS_elim h
      obtain ⟨x2A, x2n, x2c, e2, h⟩ := vS_elim h
      obtain ⟨x3, e3, h⟩ := vI_elim h
      refine J.sub ?_ ((((Sub.base _).upd e1).upd e2).upd e3)
      clear e1 e2 e3
      refine J_seq (fun σ w => vB (σ 0) fun x0 => law13_alive.p2 K x0 w) ?_ ?_
      ·
        exact sh_sound _ _ _ _ (Eq.mp (by kernel_rfl) h)
      · intro σ w h
        obtain ⟨x0, e0, h⟩ := vB_elim h
        refine J.sub ?_ ((Sub.base _).upd e0)
        clear e0
        exact sh_sound _ _ _ _ (Eq.mp (by kernel_rfl) h)

/-! ### hayloft/slide.Where: function 9 -/
abbrev slide_Where.p6 (L0 : Int → Option Addr → Nat → Nat → Int → Int → World → Prop) (K : Value → World → Prop) (x0 : Int) (x7A : Option Addr) (x7n : Nat) (x7c : Nat) (x8 : Int) (x9 : Int) (w : World) : Prop :=
  L0 x0 x7A x7n x7c x8 (IntKind.wrap .i64 (x9 + (1 : Int))) w
abbrev slide_Where.p5 (L0 : Int → Option Addr → Nat → Nat → Int → Int → World → Prop) (K : Value → World → Prop) (x0 : Int) (x6 : Addr) (x7A : Option Addr) (x7n : Nat) (x7c : Nat) (x8 : Int) (x9 : Int) (x25 : Bool) (w : World) : Prop :=
  condP x25 (∃ (n12 : Int), w.cell? (x6.add 1) = some (.int .i64 n12) ∧ ∃ (n13 : Int), w.cell? x6 = some (.int .i64 n13) ∧ slide_Where.p6 L0 K (IntKind.wrap .i64 (x0 + (IntKind.wrap .i64 (n12 - n13)))) x7A x7n x7c x8 x9 w) (slide_Where.p6 L0 K x0 x7A x7n x7c x8 x9 w)
abbrev slide_Where.p4 (L0 : Int → Option Addr → Nat → Nat → Int → Int → World → Prop) (K : Value → World → Prop) (x0 : Int) (x6 : Addr) (x7A : Option Addr) (x7n : Nat) (x7c : Nat) (x8 : Int) (x9 : Int) (w : World) : Prop :=
  ∃ (n9 : Int), w.cell? x6 = some (.int .i64 n9) ∧ condP (decide (n9 ≤ x0)) (∃ (n10 : Int), w.cell? x6 = some (.int .i64 n10) ∧ ∃ (n11 : Int), w.cell? (x6.add 2) = some (.int .i64 n11) ∧ slide_Where.p5 L0 K x0 x6 x7A x7n x7c x8 x9 (decide ((IntKind.wrap .i64 (x0 - n10)) < n11)) w) (slide_Where.p5 L0 K x0 x6 x7A x7n x7c x8 x9 false w)
abbrev slide_Where.p3 (L0 : Int → Option Addr → Nat → Nat → Int → Int → World → Prop) (K : Value → World → Prop) (x0 : Int) (x7A : Option Addr) (x7n : Nat) (x7c : Nat) (x8 : Int) (x9 : Int) (w : World) : Prop :=
  (0 ≤ x9 ∧ x9 < ((x7n : Nat) : Int)) ∧ ∃ (a1 : Addr), x7A = some a1 ∧ ∃ (n2 : Int), w.cell? (a1.add (x9.toNat * 3)) = some (.int .i64 n2) ∧ ∃ (n3 : Int), w.cell? ((a1.add (x9.toNat * 3)).add 1) = some (.int .i64 n3) ∧ ∃ (n4 : Int), w.cell? ((a1.add (x9.toNat * 3)).add 2) = some (.int .i64 n4) ∧ wlet (w.alloc (.cells #[.int .i64 0, .int .i64 0, .int .i64 0] 25)) fun w5 => canStore w5 (⟨w.heap.size, 0, none⟩) ∧ wlet (w5.setCell (⟨w.heap.size, 0, none⟩) (.int .i64 n2)) fun w6 => canStore w6 (⟨w.heap.size, 1, none⟩) ∧ wlet (w6.setCell (⟨w.heap.size, 1, none⟩) (.int .i64 n3)) fun w7 => canStore w7 (⟨w.heap.size, 2, none⟩) ∧ wlet (w7.setCell (⟨w.heap.size, 2, none⟩) (.int .i64 n4)) fun w8 => slide_Where.p4 L0 K x0 (⟨w.heap.size, 0, none⟩) x7A x7n x7c x8 x9 w8
abbrev slide_Where.p7 (K : Value → World → Prop) (x0 : Int) (w : World) : Prop :=
  K (.int .i64 x0) w
abbrev slide_Where.p2 (L0 : Int → Option Addr → Nat → Nat → Int → Int → World → Prop) (K : Value → World → Prop) (x0 : Int) (x7A : Option Addr) (x7n : Nat) (x7c : Nat) (x8 : Int) (x9 : Int) (x10 : Bool) (w : World) : Prop :=
  condP x10 (slide_Where.p3 L0 K x0 x7A x7n x7c x8 x9 w) (slide_Where.p7 K x0 w)
abbrev slide_Where.b0 (L0 : Int → Option Addr → Nat → Nat → Int → Int → World → Prop) (K : Value → World → Prop) (x0 : Int) (x7A : Option Addr) (x7n : Nat) (x7c : Nat) (x8 : Int) (x9 : Int) (w : World) : Prop :=
  slide_Where.p2 L0 K x0 x7A x7n x7c x8 x9 (decide (x9 < x8)) w
def slide_Where.l0 (K : Value → World → Prop) (k : Nat) : Int → Option Addr → Nat → Nat → Int → Int → World → Prop :=
  Nat.rec (motive := fun _ => Int → Option Addr → Nat → Nat → Int → Int → World → Prop) (fun _ _ _ _ _ _ _ => False) (fun _ ih => slide_Where.b0 ih K) k
theorem slide_Where.l0_succ (K : Value → World → Prop) (k : Nat) (x0 : Int) (x7A : Option Addr) (x7n : Nat) (x7c : Nat) (x8 : Int) (x9 : Int) (w : World) : slide_Where.l0 K (k + 1) x0 x7A x7n x7c x8 x9 w = slide_Where.b0 (slide_Where.l0 K k) K x0 x7A x7n x7c x8 x9 w := rfl
abbrev slide_Where.p1 (K : Value → World → Prop) (x0 : Int) (x7A : Option Addr) (x7n : Nat) (x7c : Nat) (x8 : Int) (x9 : Int) (w : World) : Prop :=
  ∃ k, slide_Where.l0 K k x0 x7A x7n x7c x8 x9 w
abbrev slide_Where.p0 (K : Value → World → Prop) (x0 : Int) (x1A : Option Addr) (x1n : Nat) (x1c : Nat) (w : World) : Prop :=
  slide_Where.p1 K x0 x1A x1n x1c ((x1n : Nat) : Int) 0 w
abbrev slide_Where.F (q0 : Int) (q1A : Option Addr) (q1n : Nat) (q1c : Nat) (K : Value → World → Prop) (w : World) : Prop :=
  slide_Where.p0 K q0 q1A q1n q1c w
theorem slide_Where.ok {q0 : Int} {q1A : Option Addr} {q1n : Nat} {q1c : Nat} {K : Value → World → Prop} {w : World} (h : slide_Where.F q0 q1A q1n q1c K w) :
    CallsE Tryd.prog 9 #[.int .i64 q0, .slice q1A q1n q1c] w K := by
  refine calls_of_J (n := 35) (rs := [.tmp 4]) Tryd.func9 rfl rfl rfl rfl ?_
  refine J_seq (fun σ w => vI .i64 (σ 0) fun x0 => vS (σ 1) fun x1A x1n x1c => slide_Where.p0 K x0 x1A x1n x1c w) ?_ ?_
  ·
    exact sh_sound _ _ _ _ (Eq.mp (by kernel_rfl) h)
  · intro σ w h
    obtain ⟨x0, e0, h⟩ := vI_elim h
    obtain ⟨x1A, x1n, x1c, e1, h⟩ := vS_elim h
    refine J.sub ?_ (((Sub.base _).upd e0).upd e1)
    clear e0 e1
    refine J_seq (fun σ w => vI .i64 (σ 0) fun x0 => slide_Where.p7 K x0 w) ?_ ?_
    ·
      refine J_seq (fun σ w => vI .i64 (σ 0) fun x0 => vS (σ 7) fun x7A x7n x7c => vI .i64 (σ 8) fun x8 => vI .i64 (σ 9) fun x9 => slide_Where.p1 K x0 x7A x7n x7c x8 x9 w) ?_ ?_
      ·
        exact sh_sound _ _ _ _ (Eq.mp (by kernel_rfl) h)
      · intro σ w h
        obtain ⟨x0, e0, h⟩ := vI_elim h
        obtain ⟨x7A, x7n, x7c, e7, h⟩ := vS_elim h
        obtain ⟨x8, e8, h⟩ := vI_elim h
        obtain ⟨x9, e9, h⟩ := vI_elim h
        refine J.sub ?_ (((((Sub.base _).upd e0).upd e7).upd e8).upd e9)
        clear e0 e7 e8 e9
        refine J_block ?_
        refine J_loop (fun k σ w => vI .i64 (σ 0) fun x0 => vS (σ 7) fun x7A x7n x7c => vI .i64 (σ 8) fun x8 => vI .i64 (σ 9) fun x9 => slide_Where.l0 K k x0 x7A x7n x7c x8 x9 w) (Eq.mp (by kernel_rfl) h) ?_ ?_
        · intro σ w h
          obtain ⟨x0, e0, h⟩ := vI_elim h
          obtain ⟨x7A, x7n, x7c, e7, h⟩ := vS_elim h
          obtain ⟨x8, e8, h⟩ := vI_elim h
          obtain ⟨x9, e9, h⟩ := vI_elim h
          exact h
        · intro k0 σ w h
          obtain ⟨x0, e0, h⟩ := vI_elim h
          obtain ⟨x7A, x7n, x7c, e7, h⟩ := vS_elim h
          obtain ⟨x8, e8, h⟩ := vI_elim h
          obtain ⟨x9, e9, h⟩ := vI_elim h
          refine J.sub ?_ (((((Sub.base _).upd e0).upd e7).upd e8).upd e9)
          clear e0 e7 e8 e9
          refine J_seq (fun σ w => vI .i64 (σ 0) fun x0 => vS (σ 7) fun x7A x7n x7c => vI .i64 (σ 8) fun x8 => vI .i64 (σ 9) fun x9 => vB (σ 10) fun x10 => slide_Where.p2 (slide_Where.l0 K k0) K x0 x7A x7n x7c x8 x9 x10 w) ?_ ?_
          ·
            exact sh_sound _ _ _ _ (Eq.mp (by kernel_rfl) h)
          · intro σ w h
            obtain ⟨x0, e0, h⟩ := vI_elim h
            obtain ⟨x7A, x7n, x7c, e7, h⟩ := vS_elim h
            obtain ⟨x8, e8, h⟩ := vI_elim h
            obtain ⟨x9, e9, h⟩ := vI_elim h
            obtain ⟨x10, e10, h⟩ := vB_elim h
            refine J.sub ?_ ((((((Sub.base _).upd e0).upd e7).upd e8).upd e9).upd e10)
            clear e0 e7 e8 e9 e10
            refine J_seq (fun σ w => vI .i64 (σ 0) fun x0 => vS (σ 7) fun x7A x7n x7c => vI .i64 (σ 8) fun x8 => vI .i64 (σ 9) fun x9 => slide_Where.p3 (slide_Where.l0 K k0) K x0 x7A x7n x7c x8 x9 w) ?_ ?_
            ·
              exact sh_sound _ _ _ _ (Eq.mp (by kernel_rfl) h)
            · intro σ w h
              obtain ⟨x0, e0, h⟩ := vI_elim h
              obtain ⟨x7A, x7n, x7c, e7, h⟩ := vS_elim h
              obtain ⟨x8, e8, h⟩ := vI_elim h
              obtain ⟨x9, e9, h⟩ := vI_elim h
              refine J.sub ?_ (((((Sub.base _).upd e0).upd e7).upd e8).upd e9)
              clear e0 e7 e8 e9
              refine J_seq (fun σ w => vI .i64 (σ 0) fun x0 => vS (σ 7) fun x7A x7n x7c => vI .i64 (σ 8) fun x8 => vI .i64 (σ 9) fun x9 => slide_Where.p6 (slide_Where.l0 K k0) K x0 x7A x7n x7c x8 x9 w) ?_ ?_
              ·
                refine J_block ?_
                refine J_seq (fun σ w => vI .i64 (σ 0) fun x0 => vPa (σ 6) fun x6 => vS (σ 7) fun x7A x7n x7c => vI .i64 (σ 8) fun x8 => vI .i64 (σ 9) fun x9 => slide_Where.p4 (slide_Where.l0 K k0) K x0 x6 x7A x7n x7c x8 x9 w) ?_ ?_
                ·
                  exact sh_sound _ _ _ _ (Eq.mp (by kernel_rfl) h)
                · intro σ w h
                  obtain ⟨x0, e0, h⟩ := vI_elim h
                  obtain ⟨x6, e6, h⟩ := vPa_elim h
                  obtain ⟨x7A, x7n, x7c, e7, h⟩ := vS_elim h
                  obtain ⟨x8, e8, h⟩ := vI_elim h
                  obtain ⟨x9, e9, h⟩ := vI_elim h
                  refine J.sub ?_ ((((((Sub.base _).upd e0).upd e6).upd e7).upd e8).upd e9)
                  clear e0 e6 e7 e8 e9
                  refine J_seq (fun σ w => vI .i64 (σ 0) fun x0 => vPa (σ 6) fun x6 => vS (σ 7) fun x7A x7n x7c => vI .i64 (σ 8) fun x8 => vI .i64 (σ 9) fun x9 => vB (σ 25) fun x25 => slide_Where.p5 (slide_Where.l0 K k0) K x0 x6 x7A x7n x7c x8 x9 x25 w) ?_ ?_
                  ·
                    exact sh_sound _ _ _ _ (Eq.mp (by kernel_rfl) h)
                  · intro σ w h
                    obtain ⟨x0, e0, h⟩ := vI_elim h
                    obtain ⟨x6, e6, h⟩ := vPa_elim h
                    obtain ⟨x7A, x7n, x7c, e7, h⟩ := vS_elim h
                    obtain ⟨x8, e8, h⟩ := vI_elim h
                    obtain ⟨x9, e9, h⟩ := vI_elim h
                    obtain ⟨x25, e25, h⟩ := vB_elim h
                    refine J.sub ?_ (((((((Sub.base _).upd e0).upd e6).upd e7).upd e8).upd e9).upd e25)
                    clear e0 e6 e7 e8 e9 e25
                    exact sh_sound _ _ _ _ (Eq.mp (by kernel_rfl) h)
              · intro σ w h
                obtain ⟨x0, e0, h⟩ := vI_elim h
                obtain ⟨x7A, x7n, x7c, e7, h⟩ := vS_elim h
                obtain ⟨x8, e8, h⟩ := vI_elim h
                obtain ⟨x9, e9, h⟩ := vI_elim h
                refine J.sub ?_ (((((Sub.base _).upd e0).upd e7).upd e8).upd e9)
                clear e0 e7 e8 e9
                exact sh_sound _ _ _ _ (Eq.mp (by kernel_rfl) h)
    · intro σ w h
      obtain ⟨x0, e0, h⟩ := vI_elim h
      refine J.sub ?_ ((Sub.base _).upd e0)
      clear e0
      exact sh_sound _ _ _ _ (Eq.mp (by kernel_rfl) h)

/-! ### hayloft/hayloftref13.Where: function 10 -/
abbrev ref13_Where.p6 (L0 : Int → Option Addr → Nat → Nat → Int → Int → World → Prop) (K : Value → World → Prop) (x0 : Int) (x7A : Option Addr) (x7n : Nat) (x7c : Nat) (x8 : Int) (x9 : Int) (w : World) : Prop :=
  L0 x0 x7A x7n x7c x8 (IntKind.wrap .i64 (x9 + (1 : Int))) w
abbrev ref13_Where.p5 (L0 : Int → Option Addr → Nat → Nat → Int → Int → World → Prop) (K : Value → World → Prop) (x0 : Int) (x6 : Addr) (x7A : Option Addr) (x7n : Nat) (x7c : Nat) (x8 : Int) (x9 : Int) (x33 : Bool) (w : World) : Prop :=
  condP x33 (∃ (n13 : Int), w.cell? (x6.add 1) = some (.int .i64 n13) ∧ ∃ (n14 : Int), w.cell? x6 = some (.int .i64 n14) ∧ ref13_Where.p6 L0 K (IntKind.wrap .i64 (x0 + (IntKind.wrap .i64 (n13 - n14)))) x7A x7n x7c x8 x9 w) (ref13_Where.p6 L0 K x0 x7A x7n x7c x8 x9 w)
abbrev ref13_Where.p4 (L0 : Int → Option Addr → Nat → Nat → Int → Int → World → Prop) (K : Value → World → Prop) (x0 : Int) (x6 : Addr) (x7A : Option Addr) (x7n : Nat) (x7c : Nat) (x8 : Int) (x9 : Int) (w : World) : Prop :=
  ∃ (n9 : Int), w.cell? (x6.add 2) = some (.int .i64 n9) ∧ condP (decide ((0 : Int) < n9)) (∃ (n10 : Int), w.cell? x6 = some (.int .i64 n10) ∧ condP (decide (n10 ≤ x0)) (∃ (n11 : Int), w.cell? x6 = some (.int .i64 n11) ∧ ∃ (n12 : Int), w.cell? (x6.add 2) = some (.int .i64 n12) ∧ ref13_Where.p5 L0 K x0 x6 x7A x7n x7c x8 x9 (decide ((IntKind.wrap .u64 ((IntKind.wrap .u64 x0) - (IntKind.wrap .u64 n11))) < (IntKind.wrap .u64 n12))) w) (ref13_Where.p5 L0 K x0 x6 x7A x7n x7c x8 x9 false w)) (ref13_Where.p5 L0 K x0 x6 x7A x7n x7c x8 x9 false w)
abbrev ref13_Where.p3 (L0 : Int → Option Addr → Nat → Nat → Int → Int → World → Prop) (K : Value → World → Prop) (x0 : Int) (x7A : Option Addr) (x7n : Nat) (x7c : Nat) (x8 : Int) (x9 : Int) (w : World) : Prop :=
  (0 ≤ x9 ∧ x9 < ((x7n : Nat) : Int)) ∧ ∃ (a1 : Addr), x7A = some a1 ∧ ∃ (n2 : Int), w.cell? (a1.add (x9.toNat * 3)) = some (.int .i64 n2) ∧ ∃ (n3 : Int), w.cell? ((a1.add (x9.toNat * 3)).add 1) = some (.int .i64 n3) ∧ ∃ (n4 : Int), w.cell? ((a1.add (x9.toNat * 3)).add 2) = some (.int .i64 n4) ∧ wlet (w.alloc (.cells #[.int .i64 0, .int .i64 0, .int .i64 0] 25)) fun w5 => canStore w5 (⟨w.heap.size, 0, none⟩) ∧ wlet (w5.setCell (⟨w.heap.size, 0, none⟩) (.int .i64 n2)) fun w6 => canStore w6 (⟨w.heap.size, 1, none⟩) ∧ wlet (w6.setCell (⟨w.heap.size, 1, none⟩) (.int .i64 n3)) fun w7 => canStore w7 (⟨w.heap.size, 2, none⟩) ∧ wlet (w7.setCell (⟨w.heap.size, 2, none⟩) (.int .i64 n4)) fun w8 => ref13_Where.p4 L0 K x0 (⟨w.heap.size, 0, none⟩) x7A x7n x7c x8 x9 w8
abbrev ref13_Where.p7 (K : Value → World → Prop) (x0 : Int) (w : World) : Prop :=
  K (.int .i64 x0) w
abbrev ref13_Where.p2 (L0 : Int → Option Addr → Nat → Nat → Int → Int → World → Prop) (K : Value → World → Prop) (x0 : Int) (x7A : Option Addr) (x7n : Nat) (x7c : Nat) (x8 : Int) (x9 : Int) (x10 : Bool) (w : World) : Prop :=
  condP x10 (ref13_Where.p3 L0 K x0 x7A x7n x7c x8 x9 w) (ref13_Where.p7 K x0 w)
abbrev ref13_Where.b0 (L0 : Int → Option Addr → Nat → Nat → Int → Int → World → Prop) (K : Value → World → Prop) (x0 : Int) (x7A : Option Addr) (x7n : Nat) (x7c : Nat) (x8 : Int) (x9 : Int) (w : World) : Prop :=
  ref13_Where.p2 L0 K x0 x7A x7n x7c x8 x9 (decide (x9 < x8)) w
def ref13_Where.l0 (K : Value → World → Prop) (k : Nat) : Int → Option Addr → Nat → Nat → Int → Int → World → Prop :=
  Nat.rec (motive := fun _ => Int → Option Addr → Nat → Nat → Int → Int → World → Prop) (fun _ _ _ _ _ _ _ => False) (fun _ ih => ref13_Where.b0 ih K) k
theorem ref13_Where.l0_succ (K : Value → World → Prop) (k : Nat) (x0 : Int) (x7A : Option Addr) (x7n : Nat) (x7c : Nat) (x8 : Int) (x9 : Int) (w : World) : ref13_Where.l0 K (k + 1) x0 x7A x7n x7c x8 x9 w = ref13_Where.b0 (ref13_Where.l0 K k) K x0 x7A x7n x7c x8 x9 w := rfl
abbrev ref13_Where.p1 (K : Value → World → Prop) (x0 : Int) (x7A : Option Addr) (x7n : Nat) (x7c : Nat) (x8 : Int) (x9 : Int) (w : World) : Prop :=
  ∃ k, ref13_Where.l0 K k x0 x7A x7n x7c x8 x9 w
abbrev ref13_Where.p0 (K : Value → World → Prop) (x0 : Int) (x1A : Option Addr) (x1n : Nat) (x1c : Nat) (w : World) : Prop :=
  ref13_Where.p1 K x0 x1A x1n x1c ((x1n : Nat) : Int) 0 w
abbrev ref13_Where.F (q0 : Int) (q1A : Option Addr) (q1n : Nat) (q1c : Nat) (K : Value → World → Prop) (w : World) : Prop :=
  ref13_Where.p0 K q0 q1A q1n q1c w
theorem ref13_Where.ok {q0 : Int} {q1A : Option Addr} {q1n : Nat} {q1c : Nat} {K : Value → World → Prop} {w : World} (h : ref13_Where.F q0 q1A q1n q1c K w) :
    CallsE Tryd.prog 10 #[.int .i64 q0, .slice q1A q1n q1c] w K := by
  refine calls_of_J (n := 43) (rs := [.tmp 4]) Tryd.func10 rfl rfl rfl rfl ?_
  refine J_seq (fun σ w => vI .i64 (σ 0) fun x0 => vS (σ 1) fun x1A x1n x1c => ref13_Where.p0 K x0 x1A x1n x1c w) ?_ ?_
  ·
    exact sh_sound _ _ _ _ (Eq.mp (by kernel_rfl) h)
  · intro σ w h
    obtain ⟨x0, e0, h⟩ := vI_elim h
    obtain ⟨x1A, x1n, x1c, e1, h⟩ := vS_elim h
    refine J.sub ?_ (((Sub.base _).upd e0).upd e1)
    clear e0 e1
    refine J_seq (fun σ w => vI .i64 (σ 0) fun x0 => ref13_Where.p7 K x0 w) ?_ ?_
    ·
      refine J_seq (fun σ w => vI .i64 (σ 0) fun x0 => vS (σ 7) fun x7A x7n x7c => vI .i64 (σ 8) fun x8 => vI .i64 (σ 9) fun x9 => ref13_Where.p1 K x0 x7A x7n x7c x8 x9 w) ?_ ?_
      ·
        exact sh_sound _ _ _ _ (Eq.mp (by kernel_rfl) h)
      · intro σ w h
        obtain ⟨x0, e0, h⟩ := vI_elim h
        obtain ⟨x7A, x7n, x7c, e7, h⟩ := vS_elim h
        obtain ⟨x8, e8, h⟩ := vI_elim h
        obtain ⟨x9, e9, h⟩ := vI_elim h
        refine J.sub ?_ (((((Sub.base _).upd e0).upd e7).upd e8).upd e9)
        clear e0 e7 e8 e9
        refine J_block ?_
        refine J_loop (fun k σ w => vI .i64 (σ 0) fun x0 => vS (σ 7) fun x7A x7n x7c => vI .i64 (σ 8) fun x8 => vI .i64 (σ 9) fun x9 => ref13_Where.l0 K k x0 x7A x7n x7c x8 x9 w) (Eq.mp (by kernel_rfl) h) ?_ ?_
        · intro σ w h
          obtain ⟨x0, e0, h⟩ := vI_elim h
          obtain ⟨x7A, x7n, x7c, e7, h⟩ := vS_elim h
          obtain ⟨x8, e8, h⟩ := vI_elim h
          obtain ⟨x9, e9, h⟩ := vI_elim h
          exact h
        · intro k0 σ w h
          obtain ⟨x0, e0, h⟩ := vI_elim h
          obtain ⟨x7A, x7n, x7c, e7, h⟩ := vS_elim h
          obtain ⟨x8, e8, h⟩ := vI_elim h
          obtain ⟨x9, e9, h⟩ := vI_elim h
          refine J.sub ?_ (((((Sub.base _).upd e0).upd e7).upd e8).upd e9)
          clear e0 e7 e8 e9
          refine J_seq (fun σ w => vI .i64 (σ 0) fun x0 => vS (σ 7) fun x7A x7n x7c => vI .i64 (σ 8) fun x8 => vI .i64 (σ 9) fun x9 => vB (σ 10) fun x10 => ref13_Where.p2 (ref13_Where.l0 K k0) K x0 x7A x7n x7c x8 x9 x10 w) ?_ ?_
          ·
            exact sh_sound _ _ _ _ (Eq.mp (by kernel_rfl) h)
          · intro σ w h
            obtain ⟨x0, e0, h⟩ := vI_elim h
            obtain ⟨x7A, x7n, x7c, e7, h⟩ := vS_elim h
            obtain ⟨x8, e8, h⟩ := vI_elim h
            obtain ⟨x9, e9, h⟩ := vI_elim h
            obtain ⟨x10, e10, h⟩ := vB_elim h
            refine J.sub ?_ ((((((Sub.base _).upd e0).upd e7).upd e8).upd e9).upd e10)
            clear e0 e7 e8 e9 e10
            refine J_seq (fun σ w => vI .i64 (σ 0) fun x0 => vS (σ 7) fun x7A x7n x7c => vI .i64 (σ 8) fun x8 => vI .i64 (σ 9) fun x9 => ref13_Where.p3 (ref13_Where.l0 K k0) K x0 x7A x7n x7c x8 x9 w) ?_ ?_
            ·
              exact sh_sound _ _ _ _ (Eq.mp (by kernel_rfl) h)
            · intro σ w h
              obtain ⟨x0, e0, h⟩ := vI_elim h
              obtain ⟨x7A, x7n, x7c, e7, h⟩ := vS_elim h
              obtain ⟨x8, e8, h⟩ := vI_elim h
              obtain ⟨x9, e9, h⟩ := vI_elim h
              refine J.sub ?_ (((((Sub.base _).upd e0).upd e7).upd e8).upd e9)
              clear e0 e7 e8 e9
              refine J_seq (fun σ w => vI .i64 (σ 0) fun x0 => vS (σ 7) fun x7A x7n x7c => vI .i64 (σ 8) fun x8 => vI .i64 (σ 9) fun x9 => ref13_Where.p6 (ref13_Where.l0 K k0) K x0 x7A x7n x7c x8 x9 w) ?_ ?_
              ·
                refine J_block ?_
                refine J_seq (fun σ w => vI .i64 (σ 0) fun x0 => vPa (σ 6) fun x6 => vS (σ 7) fun x7A x7n x7c => vI .i64 (σ 8) fun x8 => vI .i64 (σ 9) fun x9 => ref13_Where.p4 (ref13_Where.l0 K k0) K x0 x6 x7A x7n x7c x8 x9 w) ?_ ?_
                ·
                  exact sh_sound _ _ _ _ (Eq.mp (by kernel_rfl) h)
                · intro σ w h
                  obtain ⟨x0, e0, h⟩ := vI_elim h
                  obtain ⟨x6, e6, h⟩ := vPa_elim h
                  obtain ⟨x7A, x7n, x7c, e7, h⟩ := vS_elim h
                  obtain ⟨x8, e8, h⟩ := vI_elim h
                  obtain ⟨x9, e9, h⟩ := vI_elim h
                  refine J.sub ?_ ((((((Sub.base _).upd e0).upd e6).upd e7).upd e8).upd e9)
                  clear e0 e6 e7 e8 e9
                  refine J_seq (fun σ w => vI .i64 (σ 0) fun x0 => vPa (σ 6) fun x6 => vS (σ 7) fun x7A x7n x7c => vI .i64 (σ 8) fun x8 => vI .i64 (σ 9) fun x9 => vB (σ 33) fun x33 => ref13_Where.p5 (ref13_Where.l0 K k0) K x0 x6 x7A x7n x7c x8 x9 x33 w) ?_ ?_
                  ·
                    exact sh_sound _ _ _ _ (Eq.mp (by kernel_rfl) h)
                  · intro σ w h
                    obtain ⟨x0, e0, h⟩ := vI_elim h
                    obtain ⟨x6, e6, h⟩ := vPa_elim h
                    obtain ⟨x7A, x7n, x7c, e7, h⟩ := vS_elim h
                    obtain ⟨x8, e8, h⟩ := vI_elim h
                    obtain ⟨x9, e9, h⟩ := vI_elim h
                    obtain ⟨x33, e33, h⟩ := vB_elim h
                    refine J.sub ?_ (((((((Sub.base _).upd e0).upd e6).upd e7).upd e8).upd e9).upd e33)
                    clear e0 e6 e7 e8 e9 e33
                    exact sh_sound _ _ _ _ (Eq.mp (by kernel_rfl) h)
              · intro σ w h
                obtain ⟨x0, e0, h⟩ := vI_elim h
                obtain ⟨x7A, x7n, x7c, e7, h⟩ := vS_elim h
                obtain ⟨x8, e8, h⟩ := vI_elim h
                obtain ⟨x9, e9, h⟩ := vI_elim h
                refine J.sub ?_ (((((Sub.base _).upd e0).upd e7).upd e8).upd e9)
                clear e0 e7 e8 e9
                exact sh_sound _ _ _ _ (Eq.mp (by kernel_rfl) h)
    · intro σ w h
      obtain ⟨x0, e0, h⟩ := vI_elim h
      refine J.sub ?_ ((Sub.base _).upd e0)
      clear e0
      exact sh_sound _ _ _ _ (Eq.mp (by kernel_rfl) h)

/-! ### hayloft/hayloftref10.Copy: function 11 -/
abbrev ref10_Copy.p3 (K : Value → World → Prop) (x3A : Option Addr) (x3n : Nat) (x3c : Nat) (w : World) : Prop :=
  K (.slice x3A x3n x3c) w
abbrev ref10_Copy.b0 (L0 : Option Addr → Nat → Nat → Option Addr → Nat → Nat → Int → Int → World → Prop) (K : Value → World → Prop) (x3A : Option Addr) (x3n : Nat) (x3c : Nat) (x6A : Option Addr) (x6n : Nat) (x6c : Nat) (x7 : Int) (x8 : Int) (w : World) : Prop :=
  condP (decide (x8 < x7)) ((0 ≤ x8 ∧ x8 < ((x6n : Nat) : Int)) ∧ ∃ (a1 : Addr), x6A = some a1 ∧ ∃ (n2 : Int), w.cell? (a1.add (x8.toNat * 4)) = some (.int .i64 n2) ∧ ∃ (n3 : Int), w.cell? ((a1.add (x8.toNat * 4)).add 1) = some (.int .i64 n3) ∧ ∃ (n4 : Int), w.cell? ((a1.add (x8.toNat * 4)).add 2) = some (.int .i64 n4) ∧ ∃ (A5 : Option Addr) (m6 : Nat) (c7 : Nat), w.cell? ((a1.add (x8.toNat * 4)).add 3) = some (.slice A5 m6 c7) ∧ wlet (w.alloc (.cells #[.int .i64 0, .int .i64 0, .int .i64 0, .slice none 0 0] 46)) fun w8 => canStore w8 (⟨w.heap.size, 0, none⟩) ∧ wlet (w8.setCell (⟨w.heap.size, 0, none⟩) (.int .i64 n2)) fun w9 => canStore w9 (⟨w.heap.size, 1, none⟩) ∧ wlet (w9.setCell (⟨w.heap.size, 1, none⟩) (.int .i64 n3)) fun w10 => canStore w10 (⟨w.heap.size, 2, none⟩) ∧ wlet (w10.setCell (⟨w.heap.size, 2, none⟩) (.int .i64 n4)) fun w11 => canStore w11 (⟨w.heap.size, 3, none⟩) ∧ wlet (w11.setCell (⟨w.heap.size, 3, none⟩) (.slice A5 m6 c7)) fun w12 => wlet (w12.alloc (.cells #[] 3)) fun w13 => ∃ (A14 : Option Addr) (m15 : Nat) (c16 : Nat), w13.cell? (⟨w.heap.size, 3, none⟩) = some (.slice A14 m15 c16) ∧ SemJ Tryd.prog (Builtin.append_ #[44, 44] 44 #[.slice (some ⟨w12.heap.size, 0, none⟩) 0 0, .slice A14 m15 c16]) (fun v17 w18 => ∃ (A19 : Option Addr) (m20 : Nat) (c21 : Nat), v17 = .slice A19 m20 c21 ∧ canStore w18 (⟨w.heap.size, 3, none⟩) ∧ wlet (w18.setCell (⟨w.heap.size, 3, none⟩) (.slice A19 m20 c21)) fun w22 => ∃ (n23 : Int), w22.cell? (⟨w.heap.size, 0, none⟩) = some (.int .i64 n23) ∧ ∃ (n24 : Int), w22.cell? (⟨w.heap.size, 1, none⟩) = some (.int .i64 n24) ∧ ∃ (n25 : Int), w22.cell? (⟨w.heap.size, 2, none⟩) = some (.int .i64 n25) ∧ ∃ (A26 : Option Addr) (m27 : Nat) (c28 : Nat), w22.cell? (⟨w.heap.size, 3, none⟩) = some (.slice A26 m27 c28) ∧ wlet (w22.alloc (.cells #[.int .i64 n23, .int .i64 n24, .int .i64 n25, .slice A26 m27 c28] 46)) fun w29 => SemJ Tryd.prog (Builtin.append_ #[28, 28] 28 #[.slice x3A x3n x3c, .slice (some ⟨w22.heap.size, 0, none⟩) 1 1]) (fun v30 w31 => ∃ (A32 : Option Addr) (m33 : Nat) (c34 : Nat), v30 = .slice A32 m33 c34 ∧ L0 A32 m33 c34 x6A x6n x6c x7 (IntKind.wrap .i64 (x8 + (1 : Int))) w31) w29) w13) (ref10_Copy.p3 K x3A x3n x3c w)
def ref10_Copy.l0 (K : Value → World → Prop) (k : Nat) : Option Addr → Nat → Nat → Option Addr → Nat → Nat → Int → Int → World → Prop :=
  Nat.rec (motive := fun _ => Option Addr → Nat → Nat → Option Addr → Nat → Nat → Int → Int → World → Prop) (fun _ _ _ _ _ _ _ _ _ => False) (fun _ ih => ref10_Copy.b0 ih K) k
theorem ref10_Copy.l0_succ (K : Value → World → Prop) (k : Nat) (x3A : Option Addr) (x3n : Nat) (x3c : Nat) (x6A : Option Addr) (x6n : Nat) (x6c : Nat) (x7 : Int) (x8 : Int) (w : World) : ref10_Copy.l0 K (k + 1) x3A x3n x3c x6A x6n x6c x7 x8 w = ref10_Copy.b0 (ref10_Copy.l0 K k) K x3A x3n x3c x6A x6n x6c x7 x8 w := rfl
abbrev ref10_Copy.p2 (K : Value → World → Prop) (x3A : Option Addr) (x3n : Nat) (x3c : Nat) (x6A : Option Addr) (x6n : Nat) (x6c : Nat) (x7 : Int) (x8 : Int) (w : World) : Prop :=
  ∃ k, ref10_Copy.l0 K k x3A x3n x3c x6A x6n x6c x7 x8 w
abbrev ref10_Copy.p1 (K : Value → World → Prop) (x0A : Option Addr) (x0n : Nat) (x0c : Nat) (x3A : Option Addr) (x3n : Nat) (x3c : Nat) (w : World) : Prop :=
  ref10_Copy.p2 K x3A x3n x3c x0A x0n x0c ((x0n : Nat) : Int) 0 w
abbrev ref10_Copy.p0 (K : Value → World → Prop) (x0A : Option Addr) (x0n : Nat) (x0c : Nat) (w : World) : Prop :=
  ref10_Copy.p1 K x0A x0n x0c none 0 0 w
abbrev ref10_Copy.F (q0A : Option Addr) (q0n : Nat) (q0c : Nat) (K : Value → World → Prop) (w : World) : Prop :=
  ref10_Copy.p0 K q0A q0n q0c w
theorem ref10_Copy.ok {q0A : Option Addr} {q0n : Nat} {q0c : Nat} {K : Value → World → Prop} {w : World} (h : ref10_Copy.F q0A q0n q0c K w) :
    CallsE Tryd.prog 11 #[.slice q0A q0n q0c] w K := by
  refine calls_of_J (n := 23) (rs := [.tmp 2]) Tryd.func11 rfl rfl rfl rfl ?_
  refine J_seq (fun σ w => vS (σ 0) fun x0A x0n x0c => ref10_Copy.p0 K x0A x0n x0c w) ?_ ?_
  ·
    exact sh_sound _ _ _ _ (Eq.mp (by kernel_rfl) h)
  · intro σ w h
    obtain ⟨x0A, x0n, x0c, e0, h⟩ := vS_elim h
    refine J.sub ?_ ((Sub.base _).upd e0)
    clear e0
    refine J_seq (fun σ w => vS (σ 0) fun x0A x0n x0c => vS (σ 3) fun x3A x3n x3c => ref10_Copy.p1 K x0A x0n x0c x3A x3n x3c w) ?_ ?_
    ·
      exact sh_sound _ _ _ _ (Eq.mp (by kernel_rfl) h)
    · intro σ w h
      obtain ⟨x0A, x0n, x0c, e0, h⟩ := vS_elim h
      obtain ⟨x3A, x3n, x3c, e3, h⟩ := vS_elim h
      refine J.sub ?_ (((Sub.base _).upd e0).upd e3)
      clear e0 e3
      refine J_seq (fun σ w => vS (σ 3) fun x3A x3n x3c => ref10_Copy.p3 K x3A x3n x3c w) ?_ ?_
      ·
        refine J_seq (fun σ w => vS (σ 3) fun x3A x3n x3c => vS (σ 6) fun x6A x6n x6c => vI .i64 (σ 7) fun x7 => vI .i64 (σ 8) fun x8 => ref10_Copy.p2 K x3A x3n x3c x6A x6n x6c x7 x8 w) ?_ ?_
        ·
          exact sh_sound _ _ _ _ (Eq.mp (by kernel_rfl) h)
        · intro σ w h
          obtain ⟨x3A, x3n, x3c, e3, h⟩ := vS_elim h
          obtain ⟨x6A, x6n, x6c, e6, h⟩ := vS_elim h
          obtain ⟨x7, e7, h⟩ := vI_elim h
          obtain ⟨x8, e8, h⟩ := vI_elim h
          refine J.sub ?_ (((((Sub.base _).upd e3).upd e6).upd e7).upd e8)
          clear e3 e6 e7 e8
          refine J_block ?_
          refine J_loop (fun k σ w => vS (σ 3) fun x3A x3n x3c => vS (σ 6) fun x6A x6n x6c => vI .i64 (σ 7) fun x7 => vI .i64 (σ 8) fun x8 => ref10_Copy.l0 K k x3A x3n x3c x6A x6n x6c x7 x8 w) (Eq.mp (by kernel_rfl) h) ?_ ?_
          · intro σ w h
            obtain ⟨x3A, x3n, x3c, e3, h⟩ := vS_elim h
            obtain ⟨x6A, x6n, x6c, e6, h⟩ := vS_elim h
            obtain ⟨x7, e7, h⟩ := vI_elim h
            obtain ⟨x8, e8, h⟩ := vI_elim h
            exact h
          · intro k0 σ w h
            obtain ⟨x3A, x3n, x3c, e3, h⟩ := vS_elim h
            obtain ⟨x6A, x6n, x6c, e6, h⟩ := vS_elim h
            obtain ⟨x7, e7, h⟩ := vI_elim h
            obtain ⟨x8, e8, h⟩ := vI_elim h
            refine J.sub ?_ (((((Sub.base _).upd e3).upd e6).upd e7).upd e8)
            clear e3 e6 e7 e8
            exact sh_sound _ _ _ _ (Eq.mp (by kernel_rfl) h)
      · intro σ w h
        obtain ⟨x3A, x3n, x3c, e3, h⟩ := vS_elim h
        refine J.sub ?_ ((Sub.base _).upd e3)
        clear e3
        exact sh_sound _ _ _ _ (Eq.mp (by kernel_rfl) h)

/-! ### hayloft/slide.Plan: function 12 -/
abbrev slide_Plan.p13 (L1 : Addr → FuncId → Array Value → Option Addr → Nat → Nat → Int → Option Addr → Nat → Nat → Int → Int → World → Prop) (K : Value → World → Prop) (x9 : Addr) (x10g : FuncId) (x10c : Array Value) (x12A : Option Addr) (x12n : Nat) (x12c : Nat) (x13 : Int) (x34A : Option Addr) (x34n : Nat) (x34c : Nat) (x35 : Int) (x36 : Int) (w : World) : Prop :=
  L1 x9 x10g x10c x12A x12n x12c x13 x34A x34n x34c x35 (IntKind.wrap .i64 (x36 + (1 : Int))) w
abbrev slide_Plan.p15 (L1 : Addr → FuncId → Array Value → Option Addr → Nat → Nat → Int → Option Addr → Nat → Nat → Int → Int → World → Prop) (K : Value → World → Prop) (x9 : Addr) (x10g : FuncId) (x10c : Array Value) (x12A : Option Addr) (x12n : Nat) (x12c : Nat) (x13 : Int) (x15 : Option Addr) (x34A : Option Addr) (x34n : Nat) (x34c : Nat) (x35 : Int) (x36 : Int) (w : World) : Prop :=
  CallsE Tryd.prog 29 #[.pointer x15] w (fun v26 w27 => ∃ (n28 : Int) (n29 : Int) (n30 : Int) (A31 : Option Addr) (m32 : Nat) (c33 : Nat), v26 = .agg #[.int .i64 n28, .int .i64 n29, .int .i64 n30, .slice A31 m32 c33] ∧ wlet (w27.alloc (.cells #[.int .i64 0, .int .i64 0, .int .i64 0, .slice none 0 0] 46)) fun w34 => canStore w34 (⟨w27.heap.size, 0, none⟩) ∧ wlet (w34.setCell (⟨w27.heap.size, 0, none⟩) (.int .i64 n28)) fun w35 => canStore w35 (⟨w27.heap.size, 1, none⟩) ∧ wlet (w35.setCell (⟨w27.heap.size, 1, none⟩) (.int .i64 n29)) fun w36 => canStore w36 (⟨w27.heap.size, 2, none⟩) ∧ wlet (w36.setCell (⟨w27.heap.size, 2, none⟩) (.int .i64 n30)) fun w37 => canStore w37 (⟨w27.heap.size, 3, none⟩) ∧ wlet (w37.setCell (⟨w27.heap.size, 3, none⟩) (.slice A31 m32 c33)) fun w38 => canStore w38 (⟨w27.heap.size, 0, none⟩) ∧ wlet (w38.setCell (⟨w27.heap.size, 0, none⟩) (.int .i64 x13)) fun w39 => CallsE Tryd.prog 22 #[.pointer x15] w39 (fun v40 w41 => ∃ (n42 : Int), v40 = .int .i64 n42 ∧ ∃ (n43 : Int), w41.cell? (⟨w27.heap.size, 0, none⟩) = some (.int .i64 n43) ∧ ∃ (n44 : Int), w41.cell? (⟨w27.heap.size, 1, none⟩) = some (.int .i64 n44) ∧ ∃ (n45 : Int), w41.cell? (⟨w27.heap.size, 2, none⟩) = some (.int .i64 n45) ∧ ∃ (A46 : Option Addr) (m47 : Nat) (c48 : Nat), w41.cell? (⟨w27.heap.size, 3, none⟩) = some (.slice A46 m47 c48) ∧ wlet (w41.alloc (.cells #[.int .i64 n43, .int .i64 n44, .int .i64 n45, .slice A46 m47 c48] 46)) fun w49 => SemJ Tryd.prog (Builtin.append_ #[28, 28] 28 #[.slice x12A x12n x12c, .slice (some ⟨w41.heap.size, 0, none⟩) 1 1]) (fun v50 w51 => ∃ (A52 : Option Addr) (m53 : Nat) (c54 : Nat), v50 = .slice A52 m53 c54 ∧ slide_Plan.p13 L1 K x9 x10g x10c A52 m53 c54 (IntKind.wrap .i64 (x13 + n42)) x34A x34n x34c x35 x36 w51) w49))
abbrev slide_Plan.p14 (L1 : Addr → FuncId → Array Value → Option Addr → Nat → Nat → Int → Option Addr → Nat → Nat → Int → Int → World → Prop) (K : Value → World → Prop) (x9 : Addr) (x10g : FuncId) (x10c : Array Value) (x12A : Option Addr) (x12n : Nat) (x12c : Nat) (x13 : Int) (x15 : Option Addr) (x34A : Option Addr) (x34n : Nat) (x34c : Nat) (x35 : Int) (x36 : Int) (w : World) : Prop :=
  CallsE Tryd.prog 28 #[.pointer x15] w (fun v15 w16 => ∃ (n17 : Int), v15 = .int .i64 n17 ∧ condP (n17 != x13) (CallsE Tryd.prog 28 #[.pointer x15] w16 (fun v18 w19 => ∃ (n20 : Int), v18 = .int .i64 n20 ∧ CallsE Tryd.prog 22 #[.pointer x15] w19 (fun v21 w22 => ∃ (n23 : Int), v21 = .int .i64 n23 ∧ callG Tryd.prog x10g (CallsE Tryd.prog x10g ⟨[.int .i64 (IntKind.wrap .i64 (n20 * (256 : Int))), .int .i64 (IntKind.wrap .i64 (x13 * (256 : Int))), .int .i64 (IntKind.wrap .i64 (n23 * (256 : Int)))] ++ x10c.toList⟩ w22 (fun v24 w25 => v24 = .tuple #[] ∧ slide_Plan.p15 L1 K x9 x10g x10c x12A x12n x12c x13 x15 x34A x34n x34c x35 x36 w25))))) (slide_Plan.p15 L1 K x9 x10g x10c x12A x12n x12c x13 x15 x34A x34n x34c x35 x36 w16))
abbrev slide_Plan.p12 (L1 : Addr → FuncId → Array Value → Option Addr → Nat → Nat → Int → Option Addr → Nat → Nat → Int → Int → World → Prop) (K : Value → World → Prop) (x9 : Addr) (x10g : FuncId) (x10c : Array Value) (x12A : Option Addr) (x12n : Nat) (x12c : Nat) (x13 : Int) (x15 : Option Addr) (x34A : Option Addr) (x34n : Nat) (x34c : Nat) (x35 : Int) (x36 : Int) (w : World) : Prop :=
  CallsE Tryd.prog 21 #[.pointer x15] w (fun v12 w13 => ∃ (n14 : Int), v12 = .int .i64 n14 ∧ condP (n14 == (0 : Int)) (slide_Plan.p13 L1 K x9 x10g x10c x12A x12n x12c x13 x34A x34n x34c x35 x36 w13) (slide_Plan.p14 L1 K x9 x10g x10c x12A x12n x12c x13 x15 x34A x34n x34c x35 x36 w13))
abbrev slide_Plan.p11 (L1 : Addr → FuncId → Array Value → Option Addr → Nat → Nat → Int → Option Addr → Nat → Nat → Int → Int → World → Prop) (K : Value → World → Prop) (x9 : Addr) (x10g : FuncId) (x10c : Array Value) (x12A : Option Addr) (x12n : Nat) (x12c : Nat) (x13 : Int) (x34A : Option Addr) (x34n : Nat) (x34c : Nat) (x35 : Int) (x36 : Int) (w : World) : Prop :=
  (0 ≤ x36 ∧ x36 < ((x34n : Nat) : Int)) ∧ ∃ (a10 : Addr), x34A = some a10 ∧ ∃ (p11 : Option Addr), w.cell? (a10.add x36.toNat) = some (.pointer p11) ∧ slide_Plan.p12 L1 K x9 x10g x10c x12A x12n x12c x13 p11 x34A x34n x34c x35 x36 w
abbrev slide_Plan.p16 (K : Value → World → Prop) (x9 : Addr) (x12A : Option Addr) (x12n : Nat) (x12c : Nat) (w : World) : Prop :=
  ∃ (A55 : Option Addr) (m56 : Nat) (c57 : Nat), w.cell? x9 = some (.slice A55 m56 c57) ∧ K (.tuple #[.slice x12A x12n x12c, .slice A55 m56 c57, .int .i64 0]) w
abbrev slide_Plan.p10 (L1 : Addr → FuncId → Array Value → Option Addr → Nat → Nat → Int → Option Addr → Nat → Nat → Int → Int → World → Prop) (K : Value → World → Prop) (x9 : Addr) (x10g : FuncId) (x10c : Array Value) (x12A : Option Addr) (x12n : Nat) (x12c : Nat) (x13 : Int) (x34A : Option Addr) (x34n : Nat) (x34c : Nat) (x35 : Int) (x36 : Int) (x37 : Bool) (w : World) : Prop :=
  condP x37 (slide_Plan.p11 L1 K x9 x10g x10c x12A x12n x12c x13 x34A x34n x34c x35 x36 w) (slide_Plan.p16 K x9 x12A x12n x12c w)
abbrev slide_Plan.b1 (L1 : Addr → FuncId → Array Value → Option Addr → Nat → Nat → Int → Option Addr → Nat → Nat → Int → Int → World → Prop) (K : Value → World → Prop) (x9 : Addr) (x10g : FuncId) (x10c : Array Value) (x12A : Option Addr) (x12n : Nat) (x12c : Nat) (x13 : Int) (x34A : Option Addr) (x34n : Nat) (x34c : Nat) (x35 : Int) (x36 : Int) (w : World) : Prop :=
  slide_Plan.p10 L1 K x9 x10g x10c x12A x12n x12c x13 x34A x34n x34c x35 x36 (decide (x36 < x35)) w
def slide_Plan.l1 (K : Value → World → Prop) (k : Nat) : Addr → FuncId → Array Value → Option Addr → Nat → Nat → Int → Option Addr → Nat → Nat → Int → Int → World → Prop :=
  Nat.rec (motive := fun _ => Addr → FuncId → Array Value → Option Addr → Nat → Nat → Int → Option Addr → Nat → Nat → Int → Int → World → Prop) (fun _ _ _ _ _ _ _ _ _ _ _ _ _ => False) (fun _ ih => slide_Plan.b1 ih K) k
theorem slide_Plan.l1_succ (K : Value → World → Prop) (k : Nat) (x9 : Addr) (x10g : FuncId) (x10c : Array Value) (x12A : Option Addr) (x12n : Nat) (x12c : Nat) (x13 : Int) (x34A : Option Addr) (x34n : Nat) (x34c : Nat) (x35 : Int) (x36 : Int) (w : World) : slide_Plan.l1 K (k + 1) x9 x10g x10c x12A x12n x12c x13 x34A x34n x34c x35 x36 w = slide_Plan.b1 (slide_Plan.l1 K k) K x9 x10g x10c x12A x12n x12c x13 x34A x34n x34c x35 x36 w := rfl
abbrev slide_Plan.p9 (K : Value → World → Prop) (x9 : Addr) (x10g : FuncId) (x10c : Array Value) (x12A : Option Addr) (x12n : Nat) (x12c : Nat) (x13 : Int) (x34A : Option Addr) (x34n : Nat) (x34c : Nat) (x35 : Int) (x36 : Int) (w : World) : Prop :=
  ∃ k, slide_Plan.l1 K k x9 x10g x10c x12A x12n x12c x13 x34A x34n x34c x35 x36 w
abbrev slide_Plan.p8 (K : Value → World → Prop) (x7A : Option Addr) (x7n : Nat) (x7c : Nat) (x9 : Addr) (x10g : FuncId) (x10c : Array Value) (x12A : Option Addr) (x12n : Nat) (x12c : Nat) (x13 : Int) (w : World) : Prop :=
  slide_Plan.p9 K x9 x10g x10c x12A x12n x12c x13 x7A x7n x7c ((x7n : Nat) : Int) 0 w
abbrev slide_Plan.p7 (K : Value → World → Prop) (x7A : Option Addr) (x7n : Nat) (x7c : Nat) (x9 : Addr) (x10g : FuncId) (x10c : Array Value) (x12A : Option Addr) (x12n : Nat) (x12c : Nat) (w : World) : Prop :=
  slide_Plan.p8 K x7A x7n x7c x9 x10g x10c x12A x12n x12c 0 w
abbrev slide_Plan.p6 (K : Value → World → Prop) (x7A : Option Addr) (x7n : Nat) (x7c : Nat) (x9 : Addr) (x10g : FuncId) (x10c : Array Value) (w : World) : Prop :=
  slide_Plan.p7 K x7A x7n x7c x9 x10g x10c none 0 0 w
abbrev slide_Plan.b0 (L0 : Option Addr → Nat → Nat → Addr → FuncId → Array Value → Int → World → Prop) (K : Value → World → Prop) (x7A : Option Addr) (x7n : Nat) (x7c : Nat) (x9 : Addr) (x10g : FuncId) (x10c : Array Value) (x26 : Int) (w : World) : Prop :=
  condP (decide (x26 < (7 : Int))) (CallsE Tryd.prog 27 #[.slice x7A x7n x7c, .int .i64 x26, .func (.func x10g) #[] x10c] w (fun v8 w9 => v8 = .tuple #[] ∧ L0 x7A x7n x7c x9 x10g x10c (IntKind.wrap .i64 (x26 + (1 : Int))) w9)) (slide_Plan.p6 K x7A x7n x7c x9 x10g x10c w)
def slide_Plan.l0 (K : Value → World → Prop) (k : Nat) : Option Addr → Nat → Nat → Addr → FuncId → Array Value → Int → World → Prop :=
  Nat.rec (motive := fun _ => Option Addr → Nat → Nat → Addr → FuncId → Array Value → Int → World → Prop) (fun _ _ _ _ _ _ _ _ => False) (fun _ ih => slide_Plan.b0 ih K) k
theorem slide_Plan.l0_succ (K : Value → World → Prop) (k : Nat) (x7A : Option Addr) (x7n : Nat) (x7c : Nat) (x9 : Addr) (x10g : FuncId) (x10c : Array Value) (x26 : Int) (w : World) : slide_Plan.l0 K (k + 1) x7A x7n x7c x9 x10g x10c x26 w = slide_Plan.b0 (slide_Plan.l0 K k) K x7A x7n x7c x9 x10g x10c x26 w := rfl
abbrev slide_Plan.p5 (K : Value → World → Prop) (x7A : Option Addr) (x7n : Nat) (x7c : Nat) (x9 : Addr) (x10g : FuncId) (x10c : Array Value) (x26 : Int) (w : World) : Prop :=
  ∃ k, slide_Plan.l0 K k x7A x7n x7c x9 x10g x10c x26 w
abbrev slide_Plan.p4 (K : Value → World → Prop) (x7A : Option Addr) (x7n : Nat) (x7c : Nat) (x9 : Addr) (x10g : FuncId) (x10c : Array Value) (w : World) : Prop :=
  slide_Plan.p5 K x7A x7n x7c x9 x10g x10c 0 w
abbrev slide_Plan.p3 (K : Value → World → Prop) (x7A : Option Addr) (x7n : Nat) (x7c : Nat) (x9 : Addr) (w : World) : Prop :=
  slide_Plan.p4 K x7A x7n x7c x9 26 (#[.pointer (some x9)]) w
abbrev slide_Plan.p2 (K : Value → World → Prop) (x7A : Option Addr) (x7n : Nat) (x7c : Nat) (w : World) : Prop :=
  wlet (w.alloc (.cells #[.slice none 0 0] 22)) fun w7 => slide_Plan.p3 K x7A x7n x7c (⟨w.heap.size, 0, none⟩) w7
abbrev slide_Plan.p1 (K : Value → World → Prop) (x7A : Option Addr) (x7n : Nat) (x7c : Nat) (x8 : Bool) (w : World) : Prop :=
  condP (!x8) (K (.tuple #[.slice none 0 0, .slice none 0 0, .int .i64 4]) w) (slide_Plan.p2 K x7A x7n x7c w)
abbrev slide_Plan.p0 (K : Value → World → Prop) (x0 : Int) (x1A : Option Addr) (x1n : Nat) (x1c : Nat) (w : World) : Prop :=
  CallsE Tryd.prog 25 #[.int .i64 x0, .slice x1A x1n x1c] w (fun v1 w2 => ∃ (A3 : Option Addr) (m4 : Nat) (c5 : Nat) (b6 : Bool), v1 = .tuple #[.slice A3 m4 c5, .bool b6] ∧ slide_Plan.p1 K A3 m4 c5 b6 w2)
abbrev slide_Plan.F (q0 : Int) (q1A : Option Addr) (q1n : Nat) (q1c : Nat) (K : Value → World → Prop) (w : World) : Prop :=
  slide_Plan.p0 K q0 q1A q1n q1c w
theorem slide_Plan.ok {q0 : Int} {q1A : Option Addr} {q1n : Nat} {q1c : Nat} {K : Value → World → Prop} {w : World} (h : slide_Plan.F q0 q1A q1n q1c K w) :
    CallsE Tryd.prog 12 #[.int .i64 q0, .slice q1A q1n q1c] w K := by
  refine calls_of_J (n := 72) (rs := [.tmp 4, .tmp 5, .tmp 6]) Tryd.func12 rfl rfl rfl rfl ?_
  refine J_seq (fun σ w => vI .i64 (σ 0) fun x0 => vS (σ 1) fun x1A x1n x1c => slide_Plan.p0 K x0 x1A x1n x1c w) ?_ ?_
  ·
    exact sh_sound _ _ _ _ (Eq.mp (by kernel_rfl) h)
  · intro σ w h
    obtain ⟨x0, e0, h⟩ := vI_elim h
    obtain ⟨x1A, x1n, x1c, e1, h⟩ := vS_elim h
    refine J.sub ?_ (((Sub.base _).upd e0).upd e1)
    clear e0 e1
    refine J_seq (fun σ w => vS (σ 7) fun x7A x7n x7c => vB (σ 8) fun x8 => slide_Plan.p1 K x7A x7n x7c x8 w) ?_ ?_
    ·
      exact sh_sound _ _ _ _ (Eq.mp (by kernel_rfl) h)
    · intro σ w h
      obtain ⟨x7A, x7n, x7c, e7, h⟩ := vS_elim h
      obtain ⟨x8, e8, h⟩ := vB_elim h
      refine J.sub ?_ (((Sub.base _).upd e7).upd e8)
      clear e7 e8
      refine J_seq (fun σ w => vS (σ 7) fun x7A x7n x7c => slide_Plan.p2 K x7A x7n x7c w) ?_ ?_
      ·
        exact sh_sound _ _ _ _ (Eq.mp (by kernel_rfl) h)
      · intro σ w h
        obtain ⟨x7A, x7n, x7c, e7, h⟩ := vS_elim h
        refine J.sub ?_ ((Sub.base _).upd e7)
        clear e7
        refine J_seq (fun σ w => vS (σ 7) fun x7A x7n x7c => vPa (σ 9) fun x9 => slide_Plan.p3 K x7A x7n x7c x9 w) ?_ ?_
        ·
          exact sh_sound _ _ _ _ (Eq.mp (by kernel_rfl) h)
        · intro σ w h
          obtain ⟨x7A, x7n, x7c, e7, h⟩ := vS_elim h
          obtain ⟨x9, e9, h⟩ := vPa_elim h
          refine J.sub ?_ (((Sub.base _).upd e7).upd e9)
          clear e7 e9
          refine J_seq (fun σ w => vS (σ 7) fun x7A x7n x7c => vPa (σ 9) fun x9 => vF (σ 10) fun x10g x10c => slide_Plan.p4 K x7A x7n x7c x9 x10g x10c w) ?_ ?_
          ·
            exact sh_sound _ _ _ _ (Eq.mp (by kernel_rfl) h)
          · intro σ w h
            obtain ⟨x7A, x7n, x7c, e7, h⟩ := vS_elim h
            obtain ⟨x9, e9, h⟩ := vPa_elim h
            obtain ⟨x10g, x10c, e10, h⟩ := vF_elim h
            refine J.sub ?_ ((((Sub.base _).upd e7).upd e9).upd e10)
            clear e7 e9 e10
            refine J_seq (fun σ w => vS (σ 7) fun x7A x7n x7c => vPa (σ 9) fun x9 => vF (σ 10) fun x10g x10c => slide_Plan.p6 K x7A x7n x7c x9 x10g x10c w) ?_ ?_
            ·
              refine J_seq (fun σ w => vS (σ 7) fun x7A x7n x7c => vPa (σ 9) fun x9 => vF (σ 10) fun x10g x10c => vI .i64 (σ 26) fun x26 => slide_Plan.p5 K x7A x7n x7c x9 x10g x10c x26 w) ?_ ?_
              ·
                exact sh_sound _ _ _ _ (Eq.mp (by kernel_rfl) h)
              · intro σ w h
                obtain ⟨x7A, x7n, x7c, e7, h⟩ := vS_elim h
                obtain ⟨x9, e9, h⟩ := vPa_elim h
                obtain ⟨x10g, x10c, e10, h⟩ := vF_elim h
                obtain ⟨x26, e26, h⟩ := vI_elim h
                refine J.sub ?_ (((((Sub.base _).upd e7).upd e9).upd e10).upd e26)
                clear e7 e9 e10 e26
                refine J_block ?_
                refine J_loop (fun k σ w => vS (σ 7) fun x7A x7n x7c => vPa (σ 9) fun x9 => vF (σ 10) fun x10g x10c => vI .i64 (σ 26) fun x26 => slide_Plan.l0 K k x7A x7n x7c x9 x10g x10c x26 w) (Eq.mp (by kernel_rfl) h) ?_ ?_
                · intro σ w h
                  obtain ⟨x7A, x7n, x7c, e7, h⟩ := vS_elim h
                  obtain ⟨x9, e9, h⟩ := vPa_elim h
                  obtain ⟨x10g, x10c, e10, h⟩ := vF_elim h
                  obtain ⟨x26, e26, h⟩ := vI_elim h
                  exact h
                · intro k0 σ w h
                  obtain ⟨x7A, x7n, x7c, e7, h⟩ := vS_elim h
                  obtain ⟨x9, e9, h⟩ := vPa_elim h
                  obtain ⟨x10g, x10c, e10, h⟩ := vF_elim h
                  obtain ⟨x26, e26, h⟩ := vI_elim h
                  refine J.sub ?_ (((((Sub.base _).upd e7).upd e9).upd e10).upd e26)
                  clear e7 e9 e10 e26
                  exact sh_sound _ _ _ _ (Eq.mp (by kernel_rfl) h)
            · intro σ w h
              obtain ⟨x7A, x7n, x7c, e7, h⟩ := vS_elim h
              obtain ⟨x9, e9, h⟩ := vPa_elim h
              obtain ⟨x10g, x10c, e10, h⟩ := vF_elim h
              refine J.sub ?_ ((((Sub.base _).upd e7).upd e9).upd e10)
              clear e7 e9 e10
              refine J_seq (fun σ w => vS (σ 7) fun x7A x7n x7c => vPa (σ 9) fun x9 => vF (σ 10) fun x10g x10c => vS (σ 12) fun x12A x12n x12c => slide_Plan.p7 K x7A x7n x7c x9 x10g x10c x12A x12n x12c w) ?_ ?_
              ·
                exact sh_sound _ _ _ _ (Eq.mp (by kernel_rfl) h)
              · intro σ w h
                obtain ⟨x7A, x7n, x7c, e7, h⟩ := vS_elim h
                obtain ⟨x9, e9, h⟩ := vPa_elim h
                obtain ⟨x10g, x10c, e10, h⟩ := vF_elim h
                obtain ⟨x12A, x12n, x12c, e12, h⟩ := vS_elim h
                refine J.sub ?_ (((((Sub.base _).upd e7).upd e9).upd e10).upd e12)
                clear e7 e9 e10 e12
                refine J_seq (fun σ w => vS (σ 7) fun x7A x7n x7c => vPa (σ 9) fun x9 => vF (σ 10) fun x10g x10c => vS (σ 12) fun x12A x12n x12c => vI .i64 (σ 13) fun x13 => slide_Plan.p8 K x7A x7n x7c x9 x10g x10c x12A x12n x12c x13 w) ?_ ?_
                ·
                  exact sh_sound _ _ _ _ (Eq.mp (by kernel_rfl) h)
                · intro σ w h
                  obtain ⟨x7A, x7n, x7c, e7, h⟩ := vS_elim h
                  obtain ⟨x9, e9, h⟩ := vPa_elim h
                  obtain ⟨x10g, x10c, e10, h⟩ := vF_elim h
                  obtain ⟨x12A, x12n, x12c, e12, h⟩ := vS_elim h
                  obtain ⟨x13, e13, h⟩ := vI_elim h
                  refine J.sub ?_ ((((((Sub.base _).upd e7).upd e9).upd e10).upd e12).upd e13)
                  clear e7 e9 e10 e12 e13
                  refine J_seq (fun σ w => vPa (σ 9) fun x9 => vS (σ 12) fun x12A x12n x12c => slide_Plan.p16 K x9 x12A x12n x12c w) ?_ ?_
                  ·
                    refine J_seq (fun σ w => vPa (σ 9) fun x9 => vF (σ 10) fun x10g x10c => vS (σ 12) fun x12A x12n x12c => vI .i64 (σ 13) fun x13 => vS (σ 34) fun x34A x34n x34c => vI .i64 (σ 35) fun x35 => vI .i64 (σ 36) fun x36 => slide_Plan.p9 K x9 x10g x10c x12A x12n x12c x13 x34A x34n x34c x35 x36 w) ?_ ?_
                    ·
                      exact sh_sound _ _ _ _ (Eq.mp (by kernel_rfl) h)
                    · intro σ w h
                      obtain ⟨x9, e9, h⟩ := vPa_elim h
                      obtain ⟨x10g, x10c, e10, h⟩ := vF_elim h
                      obtain ⟨x12A, x12n, x12c, e12, h⟩ := vS_elim h
                      obtain ⟨x13, e13, h⟩ := vI_elim h
                      obtain ⟨x34A, x34n, x34c, e34, h⟩ := vS_elim h
                      obtain ⟨x35, e35, h⟩ := vI_elim h
                      obtain ⟨x36, e36, h⟩ := vI_elim h
                      refine J.sub ?_ ((((((((Sub.base _).upd e9).upd e10).upd e12).upd e13).upd e34).upd e35).upd e36)
                      clear e9 e10 e12 e13 e34 e35 e36
                      refine J_block ?_
                      refine J_loop (fun k σ w => vPa (σ 9) fun x9 => vF (σ 10) fun x10g x10c => vS (σ 12) fun x12A x12n x12c => vI .i64 (σ 13) fun x13 => vS (σ 34) fun x34A x34n x34c => vI .i64 (σ 35) fun x35 => vI .i64 (σ 36) fun x36 => slide_Plan.l1 K k x9 x10g x10c x12A x12n x12c x13 x34A x34n x34c x35 x36 w) (Eq.mp (by kernel_rfl) h) ?_ ?_
                      · intro σ w h
                        obtain ⟨x9, e9, h⟩ := vPa_elim h
                        obtain ⟨x10g, x10c, e10, h⟩ := vF_elim h
                        obtain ⟨x12A, x12n, x12c, e12, h⟩ := vS_elim h
                        obtain ⟨x13, e13, h⟩ := vI_elim h
                        obtain ⟨x34A, x34n, x34c, e34, h⟩ := vS_elim h
                        obtain ⟨x35, e35, h⟩ := vI_elim h
                        obtain ⟨x36, e36, h⟩ := vI_elim h
                        exact h
                      · intro k1 σ w h
                        obtain ⟨x9, e9, h⟩ := vPa_elim h
                        obtain ⟨x10g, x10c, e10, h⟩ := vF_elim h
                        obtain ⟨x12A, x12n, x12c, e12, h⟩ := vS_elim h
                        obtain ⟨x13, e13, h⟩ := vI_elim h
                        obtain ⟨x34A, x34n, x34c, e34, h⟩ := vS_elim h
                        obtain ⟨x35, e35, h⟩ := vI_elim h
                        obtain ⟨x36, e36, h⟩ := vI_elim h
                        refine J.sub ?_ ((((((((Sub.base _).upd e9).upd e10).upd e12).upd e13).upd e34).upd e35).upd e36)
                        clear e9 e10 e12 e13 e34 e35 e36
                        refine J_seq (fun σ w => vPa (σ 9) fun x9 => vF (σ 10) fun x10g x10c => vS (σ 12) fun x12A x12n x12c => vI .i64 (σ 13) fun x13 => vS (σ 34) fun x34A x34n x34c => vI .i64 (σ 35) fun x35 => vI .i64 (σ 36) fun x36 => vB (σ 37) fun x37 => slide_Plan.p10 (slide_Plan.l1 K k1) K x9 x10g x10c x12A x12n x12c x13 x34A x34n x34c x35 x36 x37 w) ?_ ?_
                        ·
                          exact sh_sound _ _ _ _ (Eq.mp (by kernel_rfl) h)
                        · intro σ w h
                          obtain ⟨x9, e9, h⟩ := vPa_elim h
                          obtain ⟨x10g, x10c, e10, h⟩ := vF_elim h
                          obtain ⟨x12A, x12n, x12c, e12, h⟩ := vS_elim h
                          obtain ⟨x13, e13, h⟩ := vI_elim h
                          obtain ⟨x34A, x34n, x34c, e34, h⟩ := vS_elim h
                          obtain ⟨x35, e35, h⟩ := vI_elim h
                          obtain ⟨x36, e36, h⟩ := vI_elim h
                          obtain ⟨x37, e37, h⟩ := vB_elim h
                          refine J.sub ?_ (((((((((Sub.base _).upd e9).upd e10).upd e12).upd e13).upd e34).upd e35).upd e36).upd e37)
                          clear e9 e10 e12 e13 e34 e35 e36 e37
                          refine J_seq (fun σ w => vPa (σ 9) fun x9 => vF (σ 10) fun x10g x10c => vS (σ 12) fun x12A x12n x12c => vI .i64 (σ 13) fun x13 => vS (σ 34) fun x34A x34n x34c => vI .i64 (σ 35) fun x35 => vI .i64 (σ 36) fun x36 => slide_Plan.p11 (slide_Plan.l1 K k1) K x9 x10g x10c x12A x12n x12c x13 x34A x34n x34c x35 x36 w) ?_ ?_
                          ·
                            exact sh_sound _ _ _ _ (Eq.mp (by kernel_rfl) h)
                          · intro σ w h
                            obtain ⟨x9, e9, h⟩ := vPa_elim h
                            obtain ⟨x10g, x10c, e10, h⟩ := vF_elim h
                            obtain ⟨x12A, x12n, x12c, e12, h⟩ := vS_elim h
                            obtain ⟨x13, e13, h⟩ := vI_elim h
                            obtain ⟨x34A, x34n, x34c, e34, h⟩ := vS_elim h
                            obtain ⟨x35, e35, h⟩ := vI_elim h
                            obtain ⟨x36, e36, h⟩ := vI_elim h
                            refine J.sub ?_ ((((((((Sub.base _).upd e9).upd e10).upd e12).upd e13).upd e34).upd e35).upd e36)
                            clear e9 e10 e12 e13 e34 e35 e36
                            refine J_seq (fun σ w => vPa (σ 9) fun x9 => vF (σ 10) fun x10g x10c => vS (σ 12) fun x12A x12n x12c => vI .i64 (σ 13) fun x13 => vS (σ 34) fun x34A x34n x34c => vI .i64 (σ 35) fun x35 => vI .i64 (σ 36) fun x36 => slide_Plan.p13 (slide_Plan.l1 K k1) K x9 x10g x10c x12A x12n x12c x13 x34A x34n x34c x35 x36 w) ?_ ?_
                            ·
                              refine J_block ?_
                              refine J_seq (fun σ w => vPa (σ 9) fun x9 => vF (σ 10) fun x10g x10c => vS (σ 12) fun x12A x12n x12c => vI .i64 (σ 13) fun x13 => vP (σ 15) fun x15 => vS (σ 34) fun x34A x34n x34c => vI .i64 (σ 35) fun x35 => vI .i64 (σ 36) fun x36 => slide_Plan.p12 (slide_Plan.l1 K k1) K x9 x10g x10c x12A x12n x12c x13 x15 x34A x34n x34c x35 x36 w) ?_ ?_
                              ·
                                exact sh_sound _ _ _ _ (Eq.mp (by kernel_rfl) h)
                              · intro σ w h
                                obtain ⟨x9, e9, h⟩ := vPa_elim h
                                obtain ⟨x10g, x10c, e10, h⟩ := vF_elim h
                                obtain ⟨x12A, x12n, x12c, e12, h⟩ := vS_elim h
                                obtain ⟨x13, e13, h⟩ := vI_elim h
                                obtain ⟨x15, e15, h⟩ := vP_elim h
                                obtain ⟨x34A, x34n, x34c, e34, h⟩ := vS_elim h
                                obtain ⟨x35, e35, h⟩ := vI_elim h
                                obtain ⟨x36, e36, h⟩ := vI_elim h
                                refine J.sub ?_ (((((((((Sub.base _).upd e9).upd e10).upd e12).upd e13).upd e15).upd e34).upd e35).upd e36)
                                clear e9 e10 e12 e13 e15 e34 e35 e36
                                refine J_seq (fun σ w => vPa (σ 9) fun x9 => vF (σ 10) fun x10g x10c => vS (σ 12) fun x12A x12n x12c => vI .i64 (σ 13) fun x13 => vP (σ 15) fun x15 => vS (σ 34) fun x34A x34n x34c => vI .i64 (σ 35) fun x35 => vI .i64 (σ 36) fun x36 => slide_Plan.p14 (slide_Plan.l1 K k1) K x9 x10g x10c x12A x12n x12c x13 x15 x34A x34n x34c x35 x36 w) ?_ ?_
                                ·
                                  exact sh_sound _ _ _ _ (Eq.mp (by kernel_rfl) h)
                                · intro σ w h
                                  obtain ⟨x9, e9, h⟩ := vPa_elim h
                                  obtain ⟨x10g, x10c, e10, h⟩ := vF_elim h
                                  obtain ⟨x12A, x12n, x12c, e12, h⟩ := vS_elim h
                                  obtain ⟨x13, e13, h⟩ := vI_elim h
                                  obtain ⟨x15, e15, h⟩ := vP_elim h
                                  obtain ⟨x34A, x34n, x34c, e34, h⟩ := vS_elim h
                                  obtain ⟨x35, e35, h⟩ := vI_elim h
                                  obtain ⟨x36, e36, h⟩ := vI_elim h
                                  refine J.sub ?_ (((((((((Sub.base _).upd e9).upd e10).upd e12).upd e13).upd e15).upd e34).upd e35).upd e36)
                                  clear e9 e10 e12 e13 e15 e34 e35 e36
                                  refine J_seq (fun σ w => vPa (σ 9) fun x9 => vF (σ 10) fun x10g x10c => vS (σ 12) fun x12A x12n x12c => vI .i64 (σ 13) fun x13 => vP (σ 15) fun x15 => vS (σ 34) fun x34A x34n x34c => vI .i64 (σ 35) fun x35 => vI .i64 (σ 36) fun x36 => slide_Plan.p15 (slide_Plan.l1 K k1) K x9 x10g x10c x12A x12n x12c x13 x15 x34A x34n x34c x35 x36 w) ?_ ?_
                                  ·
                                    exact sh_sound _ _ _ _ (Eq.mp (by kernel_rfl) h)
                                  · intro σ w h
                                    obtain ⟨x9, e9, h⟩ := vPa_elim h
                                    obtain ⟨x10g, x10c, e10, h⟩ := vF_elim h
                                    obtain ⟨x12A, x12n, x12c, e12, h⟩ := vS_elim h
                                    obtain ⟨x13, e13, h⟩ := vI_elim h
                                    obtain ⟨x15, e15, h⟩ := vP_elim h
                                    obtain ⟨x34A, x34n, x34c, e34, h⟩ := vS_elim h
                                    obtain ⟨x35, e35, h⟩ := vI_elim h
                                    obtain ⟨x36, e36, h⟩ := vI_elim h
                                    refine J.sub ?_ (((((((((Sub.base _).upd e9).upd e10).upd e12).upd e13).upd e15).upd e34).upd e35).upd e36)
                                    clear e9 e10 e12 e13 e15 e34 e35 e36
                                    exact sh_sound _ _ _ _ (Eq.mp (by kernel_rfl) h)
                            · intro σ w h
                              obtain ⟨x9, e9, h⟩ := vPa_elim h
                              obtain ⟨x10g, x10c, e10, h⟩ := vF_elim h
                              obtain ⟨x12A, x12n, x12c, e12, h⟩ := vS_elim h
                              obtain ⟨x13, e13, h⟩ := vI_elim h
                              obtain ⟨x34A, x34n, x34c, e34, h⟩ := vS_elim h
                              obtain ⟨x35, e35, h⟩ := vI_elim h
                              obtain ⟨x36, e36, h⟩ := vI_elim h
                              refine J.sub ?_ ((((((((Sub.base _).upd e9).upd e10).upd e12).upd e13).upd e34).upd e35).upd e36)
                              clear e9 e10 e12 e13 e34 e35 e36
                              exact sh_sound _ _ _ _ (Eq.mp (by kernel_rfl) h)
                  · intro σ w h
                    obtain ⟨x9, e9, h⟩ := vPa_elim h
                    obtain ⟨x12A, x12n, x12c, e12, h⟩ := vS_elim h
                    refine J.sub ?_ (((Sub.base _).upd e9).upd e12)
                    clear e9 e12
                    exact sh_sound _ _ _ _ (Eq.mp (by kernel_rfl) h)

/-! ### hayloft/hayloftref13.Right: function 13 -/
abbrev ref13_Right.F (q0 : Int) (q1A : Option Addr) (q1n : Nat) (q1c : Nat) (K : Value → World → Prop) (w : World) : Prop :=
  CallsE Tryd.prog 30 #[.int .i64 q0, .int .i64 1, .slice q1A q1n q1c] w (fun v1 w2 => ∃ (p3 : Option Addr) (n4 : Int), v1 = .tuple #[.pointer p3, .int .i64 n4] ∧ K (.bool (n4 == (0 : Int))) w2)
theorem ref13_Right.ok {q0 : Int} {q1A : Option Addr} {q1n : Nat} {q1c : Nat} {K : Value → World → Prop} {w : World} (h : ref13_Right.F q0 q1A q1n q1c K w) :
    CallsE Tryd.prog 13 #[.int .i64 q0, .slice q1A q1n q1c] w K := by
  refine calls_of_J (n := 15) (rs := [.tmp 4]) Tryd.func13 rfl rfl rfl rfl ?_
  exact sh_sound _ _ _ _ (Eq.mp (by kernel_rfl) h)

/-! ### hayloft/slide.Right: function 14 -/
abbrev slide_Right.F (q0 : Int) (q1A : Option Addr) (q1n : Nat) (q1c : Nat) (K : Value → World → Prop) (w : World) : Prop :=
  CallsE Tryd.prog 25 #[.int .i64 q0, .slice q1A q1n q1c] w (fun v1 w2 => ∃ (A3 : Option Addr) (m4 : Nat) (c5 : Nat) (b6 : Bool), v1 = .tuple #[.slice A3 m4 c5, .bool b6] ∧ K (.bool b6) w2)
theorem slide_Right.ok {q0 : Int} {q1A : Option Addr} {q1n : Nat} {q1c : Nat} {K : Value → World → Prop} {w : World} (h : slide_Right.F q0 q1A q1n q1c K w) :
    CallsE Tryd.prog 14 #[.int .i64 q0, .slice q1A q1n q1c] w K := by
  refine calls_of_J (n := 14) (rs := [.tmp 4]) Tryd.func14 rfl rfl rfl rfl ?_
  exact sh_sound _ _ _ _ (Eq.mp (by kernel_rfl) h)

end Go.Proofs.YtklmaeefnmcmlaaDoor.F
