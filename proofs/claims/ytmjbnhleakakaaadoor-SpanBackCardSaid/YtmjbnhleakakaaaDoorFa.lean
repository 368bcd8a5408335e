/-
  Printed by a program: for each Go function a proposition that says what it comes to, and the proof that the code comes to it. No condition beyond what each theorem states.
-/
import Derived.Test.YtmjbnhleakakaaaDoorProg
import Derived.Test.YtmjbnhleakakaaaDoorSh
set_option linter.unusedVariables false
set_option maxRecDepth 100000
namespace Go.Proofs.YtmjbnhleakakaaaDoor.F
open Go Go.RowKit Go.Proofs.YtmjbnhleakakaaaDoor Go.Proofs.YtmjbnhleakakaaaDoor.Sh

noncomputable abbrev Pg : Program := Tryd.prog
abbrev law10_SpanPlaces.N : FuncId := 3
abbrev law10_SpanBack.N : FuncId := 4
abbrev law10_SpanFills.N : FuncId := 5
abbrev law10_SpanMakes.N : FuncId := 6
abbrev law10_SpanNil.N : FuncId := 7
abbrev law10_SpanPlays.N : FuncId := 8
abbrev law10_alive.N : FuncId := 9
abbrev span_New.N : FuncId := 10
abbrev span_Span_Slots.N : FuncId := 11
abbrev span_Span_At.N : FuncId := 12
abbrev span_Span_Slot.N : FuncId := 13
abbrev span_Span_Size.N : FuncId := 14
abbrev span_Span_Pages.N : FuncId := 15
abbrev span_Of.N : FuncId := 16
abbrev ref01_Ints.N : FuncId := 17
abbrev ref10_Same.N : FuncId := 18
abbrev span_Span_Data.N : FuncId := 19
abbrev span_Span_Take.N : FuncId := 20
abbrev span_Span_Give.N : FuncId := 21
abbrev span_Span_Live.N : FuncId := 22
abbrev span_Span_Has.N : FuncId := 23
abbrev ref10_New.N : FuncId := 24
abbrev ref10_Span_Data.N : FuncId := 25
abbrev span_Span_Page.N : FuncId := 26
abbrev span_Span_Class.N : FuncId := 27
abbrev ref10_Of.N : FuncId := 28
abbrev law10_do.N : FuncId := 29
abbrev ref10_Span_Live.N : FuncId := 30
abbrev ref10_Span_Size.N : FuncId := 31
abbrev ref10_Pages.N : FuncId := 32
abbrev class_Size.N : FuncId := 33
abbrev class_Of.N : FuncId := 34
abbrev class_Pages.N : FuncId := 35
abbrev set_New.N : FuncId := 36
abbrev class_Slots.N : FuncId := 37
abbrev span_taken_Slots.N : FuncId := 38
abbrev set_Set_Add.N : FuncId := 39
abbrev set_Set_List.N : FuncId := 40
abbrev set_Set_Gap.N : FuncId := 41
abbrev set_Set_Del.N : FuncId := 42
abbrev span_taken_Live.N : FuncId := 43
abbrev span_taken_Has.N : FuncId := 44
abbrev ref06_Of.N : FuncId := 45
abbrev ref06_Slots.N : FuncId := 46
abbrev ref10_Span_Take.N : FuncId := 47
abbrev ref10_Span_Give.N : FuncId := 48
abbrev ref10_Span_Has.N : FuncId := 49
abbrev ref10_Span_At.N : FuncId := 50
abbrev ref10_Span_Slot.N : FuncId := 51
abbrev ref06_Size.N : FuncId := 52
abbrev ref06_Pages.N : FuncId := 53
abbrev set_Set_Len.N : FuncId := 54
abbrev set_Set_Has.N : FuncId := 55
abbrev set_Set_First.N : FuncId := 56
abbrev set_Set_next.N : FuncId := 57
abbrev set_Set_Count.N : FuncId := 58
abbrev math_bits_TrailingZeros64.N : FuncId := 59
abbrev math_bits_OnesCount64.N : FuncId := 60
abbrev api_Errno_Error.N : FuncId := 76
abbrev var_s_door_math_bits_deBruijn64tab_is_laid_by_its_own_initialiser_plain_data_look_11.N : FuncId := 79
abbrev Ty.int64 : TypeId := 2
abbrev Ty.int : TypeId := 3
abbrev Ty.bool : TypeId := 4
abbrev Ty.uint8 : TypeId := 5
abbrev Ty.abi_BoundsErrorCode : TypeId := 6
abbrev Ty.runtime_boundsError : TypeId := 8
abbrev Ty.string : TypeId := 9
abbrev Ty.runtime_errorString : TypeId := 10
abbrev Ty.runtime_plainError : TypeId := 11
abbrev Ty.uintptr : TypeId := 12
abbrev Ty.runtime_errorAddressString : TypeId := 14
abbrev Ty.p_runtime_TypeAssertionError : TypeId := 15
abbrev Ty.p_runtime_PanicNilError : TypeId := 16
abbrev Ty.p_abi_Type : TypeId := 17
abbrev Ty.maps_unhashableTypeError : TypeId := 19
abbrev Ty.int32 : TypeId := 21
abbrev Ty.p_span_Span : TypeId := 23
abbrev Ty.api_Errno : TypeId := 24
abbrev Ty.sl_int : TypeId := 31
abbrev Ty.api_Span : TypeId := 33
abbrev Ty.sl_law10_Call : TypeId := 34
abbrev Ty.law10_Call : TypeId := 40
abbrev Ty.p_ref10_Span : TypeId := 44
abbrev Ty.sl_bool : TypeId := 50
abbrev Ty.ref10_Span : TypeId := 52
abbrev Ty.p_set_Set : TypeId := 55
abbrev Ty.span_taken : TypeId := 57
abbrev Ty.span_Span : TypeId := 59
abbrev Ty.sl_uint64 : TypeId := 61
abbrev Ty.set_Set : TypeId := 63
abbrev Ty.uint64 : TypeId := 64
abbrev Ty.a7_int : TypeId := 66
abbrev Ty.a64_uint8 : TypeId := 68
abbrev Ty.uint : TypeId := 69
abbrev Ty.runtime_TypeAssertionError : TypeId := 72
abbrev Ty.a0_p_runtime_PanicNilError : TypeId := 73
abbrev Ty.runtime_PanicNilError : TypeId := 75
abbrev Ty.uint32 : TypeId := 76
abbrev Ty.abi_TFlag : TypeId := 77
abbrev Ty.abi_Kind : TypeId := 78
abbrev Ty.p_uint8 : TypeId := 80
abbrev Ty.abi_NameOff : TypeId := 81
abbrev Ty.abi_TypeOff : TypeId := 82
abbrev Ty.abi_Type : TypeId := 84
abbrev Ty.unsafe_Pointer : TypeId := 85

/-! ### hayloft/hayloftlaw10.SpanPlaces: function 3 -/
abbrev law10_SpanPlaces.p12 (L0 : Int → Option Addr → Int → Int → World → Prop) (K : Value → World → Prop) (x0 : Int) (x7 : Option Addr) (x9 : Int) (x10 : Int) (w : World) : Prop :=
  L0 x0 x7 x9 (IntKind.wrap .i64 (x10 + (1 : Int))) w
abbrev law10_SpanPlaces.p11 (L0 : Int → Option Addr → Int → Int → World → Prop) (K : Value → World → Prop) (x0 : Int) (x7 : Option Addr) (x10 : Int) (x11 : Int) (w : World) : Prop :=
  CallsE Tryd.prog 14 #[.pointer x7] w (fun v23 w24 => ∃ (n25 : Int), v23 = .int .i64 n25 ∧ law10_SpanPlaces.p12 L0 K x0 x7 (IntKind.wrap .i64 (x11 + n25)) x10 w24)
abbrev law10_SpanPlaces.p10 (L0 : Int → Option Addr → Int → Int → World → Prop) (K : Value → World → Prop) (x0 : Int) (x7 : Option Addr) (x10 : Int) (x11 : Int) (x82 : Bool) (w : World) : Prop :=
  condP x82 (K (.bool false) w) (law10_SpanPlaces.p11 L0 K x0 x7 x10 x11 w)
abbrev law10_SpanPlaces.p9 (L0 : Int → Option Addr → Int → Int → World → Prop) (K : Value → World → Prop) (x0 : Int) (x7 : Option Addr) (x9 : Int) (x10 : Int) (x11 : Int) (x12 : Bool) (x13 : Int) (x14 : Bool) (x16 : Bool) (w : World) : Prop :=
  condP (!x12) (law10_SpanPlaces.p10 L0 K x0 x7 x10 x11 true w) (condP (x11 != x9) (law10_SpanPlaces.p10 L0 K x0 x7 x10 x11 true w) (condP (!x14) (law10_SpanPlaces.p10 L0 K x0 x7 x10 x11 true w) (condP (x13 != x10) (law10_SpanPlaces.p10 L0 K x0 x7 x10 x11 true w) (condP x16 (CallsE Tryd.prog 14 #[.pointer x7] w (fun v26 w27 => ∃ (n28 : Int), v26 = .int .i64 n28 ∧ law10_SpanPlaces.p10 L0 K x0 x7 x10 x11 (decide ((1 : Int) < n28)) w27)) (law10_SpanPlaces.p10 L0 K x0 x7 x10 x11 false w)))))
abbrev law10_SpanPlaces.p8 (L0 : Int → Option Addr → Int → Int → World → Prop) (K : Value → World → Prop) (x0 : Int) (x7 : Option Addr) (x9 : Int) (x10 : Int) (x11 : Int) (x12 : Bool) (x13 : Int) (x14 : Bool) (w : World) : Prop :=
  CallsE Tryd.prog 13 #[.pointer x7, .int .i64 (IntKind.wrap .i64 (x11 + (1 : Int)))] w (fun v19 w20 => ∃ (n21 : Int) (b22 : Bool), v19 = .tuple #[.int .i64 n21, .bool b22] ∧ law10_SpanPlaces.p9 L0 K x0 x7 x9 x10 x11 x12 x13 x14 b22 w20)
abbrev law10_SpanPlaces.p7 (L0 : Int → Option Addr → Int → Int → World → Prop) (K : Value → World → Prop) (x0 : Int) (x7 : Option Addr) (x9 : Int) (x10 : Int) (x11 : Int) (x12 : Bool) (w : World) : Prop :=
  CallsE Tryd.prog 13 #[.pointer x7, .int .i64 x11] w (fun v15 w16 => ∃ (n17 : Int) (b18 : Bool), v15 = .tuple #[.int .i64 n17, .bool b18] ∧ law10_SpanPlaces.p8 L0 K x0 x7 x9 x10 x11 x12 n17 b18 w16)
abbrev law10_SpanPlaces.p6 (L0 : Int → Option Addr → Int → Int → World → Prop) (K : Value → World → Prop) (x0 : Int) (x7 : Option Addr) (x9 : Int) (x10 : Int) (w : World) : Prop :=
  CallsE Tryd.prog 12 #[.pointer x7, .int .i64 x10] w (fun v11 w12 => ∃ (n13 : Int) (b14 : Bool), v11 = .tuple #[.int .i64 n13, .bool b14] ∧ law10_SpanPlaces.p7 L0 K x0 x7 x9 x10 n13 b14 w12)
abbrev law10_SpanPlaces.p16 (K : Value → World → Prop) (x6 : Bool) (w : World) : Prop :=
  K (.bool x6) w
abbrev law10_SpanPlaces.p15 (K : Value → World → Prop) (x0 : Int) (x7 : Option Addr) (x9 : Int) (x18 : Bool) (x20 : Bool) (w : World) : Prop :=
  condP (!x18) (condP (!x20) (CallsE Tryd.prog 15 #[.pointer x7] w (fun v40 w41 => ∃ (n42 : Int), v40 = .int .i64 n42 ∧ condP (decide (x9 ≤ (IntKind.wrap .i64 ((IntKind.wrap .i64 (x0 + n42)) * (256 : Int))))) (CallsE Tryd.prog 15 #[.pointer x7] w41 (fun v43 w44 => ∃ (n45 : Int), v43 = .int .i64 n45 ∧ condP (decide ((IntKind.wrap .i64 (x0 + n45)) ≤ (4096 : Int))) (CallsE Tryd.prog 11 #[.pointer x7] w44 (fun v46 w47 => ∃ (n48 : Int), v46 = .int .i64 n48 ∧ law10_SpanPlaces.p16 K (decide ((0 : Int) < n48)) w47)) (law10_SpanPlaces.p16 K false w44))) (law10_SpanPlaces.p16 K false w41))) (law10_SpanPlaces.p16 K false w)) (law10_SpanPlaces.p16 K false w)
abbrev law10_SpanPlaces.p14 (K : Value → World → Prop) (x0 : Int) (x7 : Option Addr) (x9 : Int) (x18 : Bool) (w : World) : Prop :=
  CallsE Tryd.prog 13 #[.pointer x7, .int .i64 x9] w (fun v36 w37 => ∃ (n38 : Int) (b39 : Bool), v36 = .tuple #[.int .i64 n38, .bool b39] ∧ law10_SpanPlaces.p15 K x0 x7 x9 x18 b39 w37)
abbrev law10_SpanPlaces.p13 (K : Value → World → Prop) (x0 : Int) (x7 : Option Addr) (x9 : Int) (w : World) : Prop :=
  CallsE Tryd.prog 11 #[.pointer x7] w (fun v29 w30 => ∃ (n31 : Int), v29 = .int .i64 n31 ∧ CallsE Tryd.prog 12 #[.pointer x7, .int .i64 n31] w30 (fun v32 w33 => ∃ (n34 : Int) (b35 : Bool), v32 = .tuple #[.int .i64 n34, .bool b35] ∧ law10_SpanPlaces.p14 K x0 x7 x9 b35 w33))
abbrev law10_SpanPlaces.b0 (L0 : Int → Option Addr → Int → Int → World → Prop) (K : Value → World → Prop) (x0 : Int) (x7 : Option Addr) (x9 : Int) (x10 : Int) (w : World) : Prop :=
  CallsE Tryd.prog 11 #[.pointer x7] w (fun v8 w9 => ∃ (n10 : Int), v8 = .int .i64 n10 ∧ condP (decide (x10 < n10)) (law10_SpanPlaces.p6 L0 K x0 x7 x9 x10 w9) (law10_SpanPlaces.p13 K x0 x7 x9 w9))
def law10_SpanPlaces.l0 (K : Value → World → Prop) (k : Nat) : Int → Option Addr → Int → Int → World → Prop :=
  Nat.rec (motive := fun _ => Int → Option Addr → Int → Int → World → Prop) (fun _ _ _ _ _ => False) (fun _ ih => law10_SpanPlaces.b0 ih K) k
theorem law10_SpanPlaces.l0_succ (K : Value → World → Prop) (k : Nat) (x0 : Int) (x7 : Option Addr) (x9 : Int) (x10 : Int) (w : World) : law10_SpanPlaces.l0 K (k + 1) x0 x7 x9 x10 w = law10_SpanPlaces.b0 (law10_SpanPlaces.l0 K k) K x0 x7 x9 x10 w := rfl
abbrev law10_SpanPlaces.p5 (K : Value → World → Prop) (x0 : Int) (x7 : Option Addr) (x9 : Int) (x10 : Int) (w : World) : Prop :=
  ∃ k, law10_SpanPlaces.l0 K k x0 x7 x9 x10 w
abbrev law10_SpanPlaces.p4 (K : Value → World → Prop) (x0 : Int) (x7 : Option Addr) (x9 : Int) (w : World) : Prop :=
  law10_SpanPlaces.p5 K x0 x7 x9 0 w
abbrev law10_SpanPlaces.p3 (K : Value → World → Prop) (x0 : Int) (x7 : Option Addr) (w : World) : Prop :=
  law10_SpanPlaces.p4 K x0 x7 (IntKind.wrap .i64 (x0 * (256 : Int))) w
abbrev law10_SpanPlaces.p2 (K : Value → World → Prop) (x0 : Int) (x7 : Option Addr) (x8 : Int) (w : World) : Prop :=
  condP (x8 != (0 : Int)) (K (.bool true) w) (law10_SpanPlaces.p3 K x0 x7 w)
abbrev law10_SpanPlaces.p1 (K : Value → World → Prop) (x0 : Int) (x1 : Int) (x2 : Int) (w : World) : Prop :=
  CallsE Tryd.prog 10 #[.int .i64 x0, .int .i64 x1, .int .i64 x2] w (fun v4 w5 => ∃ (p6 : Option Addr) (n7 : Int), v4 = .tuple #[.pointer p6, .int .i64 n7] ∧ law10_SpanPlaces.p2 K x0 p6 n7 w5)
abbrev law10_SpanPlaces.p0 (K : Value → World → Prop) (x0 : Int) (x1 : Int) (x2 : Int) (w : World) : Prop :=
  CallsE Tryd.prog 9 #[] w (fun v1 w2 => ∃ (b3 : Bool), v1 = .bool b3 ∧ condP (!b3) (K (.bool false) w2) (law10_SpanPlaces.p1 K x0 x1 x2 w2))
abbrev law10_SpanPlaces.F (q0 : Int) (q1 : Int) (q2 : Int) (K : Value → World → Prop) (w : World) : Prop :=
  law10_SpanPlaces.p0 K q0 q1 q2 w
theorem law10_SpanPlaces.ok {q0 : Int} {q1 : Int} {q2 : Int} {K : Value → World → Prop} {w : World} (h : law10_SpanPlaces.F q0 q1 q2 K w) :
    CallsE Tryd.prog 3 #[.int .i64 q0, .int .i64 q1, .int .i64 q2] w K := by
  refine calls_of_J (n := 127) (rs := [.tmp 6]) Tryd.func3 rfl rfl rfl rfl ?_
  refine J_seq (fun σ w => vI .i64 (σ 0) fun x0 => vI .i64 (σ 1) fun x1 => vI .i64 (σ 2) fun x2 => law10_SpanPlaces.p0 K x0 x1 x2 w) ?_ ?_
  ·
    exact sh_sound _ _ _ _ (Eq.mp (by kernel_rfl) h)
  · intro σ w h
    obtain ⟨x0, e0, h⟩ := vI_elim h
    obtain ⟨x1, e1, h⟩ := vI_elim h
    obtain ⟨x2, e2, h⟩ := vI_elim h
    refine J.sub ?_ ((((Sub.base _).upd e0).upd e1).upd e2)
    clear e0 e1 e2
    refine J_seq (fun σ w => vI .i64 (σ 0) fun x0 => vI .i64 (σ 1) fun x1 => vI .i64 (σ 2) fun x2 => law10_SpanPlaces.p1 K x0 x1 x2 w) ?_ ?_
    ·
      exact sh_sound _ _ _ _ (Eq.mp (by kernel_rfl) h)
    · intro σ w h
      obtain ⟨x0, e0, h⟩ := vI_elim h
      obtain ⟨x1, e1, h⟩ := vI_elim h
      obtain ⟨x2, e2, h⟩ := vI_elim h
      refine J.sub ?_ ((((Sub.base _).upd e0).upd e1).upd e2)
      clear e0 e1 e2
      refine J_seq (fun σ w => vI .i64 (σ 0) fun x0 => vP (σ 7) fun x7 => vI .i64 (σ 8) fun x8 => law10_SpanPlaces.p2 K x0 x7 x8 w) ?_ ?_
      ·
        exact sh_sound _ _ _ _ (Eq.mp (by kernel_rfl) h)
      · intro σ w h
        obtain ⟨x0, e0, h⟩ := vI_elim h
        obtain ⟨x7, e7, h⟩ := vP_elim h
        obtain ⟨x8, e8, h⟩ := vI_elim h
        refine J.sub ?_ ((((Sub.base _).upd e0).upd e7).upd e8)
        clear e0 e7 e8
        refine J_seq (fun σ w => vI .i64 (σ 0) fun x0 => vP (σ 7) fun x7 => law10_SpanPlaces.p3 K x0 x7 w) ?_ ?_
        ·
          exact sh_sound _ _ _ _ (Eq.mp (by kernel_rfl) h)
        · intro σ w h
          obtain ⟨x0, e0, h⟩ := vI_elim h
          obtain ⟨x7, e7, h⟩ := vP_elim h
          refine J.sub ?_ (((Sub.base _).upd e0).upd e7)
          clear e0 e7
          refine J_seq (fun σ w => vI .i64 (σ 0) fun x0 => vP (σ 7) fun x7 => vI .i64 (σ 9) fun x9 => law10_SpanPlaces.p4 K x0 x7 x9 w) ?_ ?_
          ·
            exact sh_sound _ _ _ _ (Eq.mp (by kernel_rfl) h)
          · intro σ w h
            obtain ⟨x0, e0, h⟩ := vI_elim h
            obtain ⟨x7, e7, h⟩ := vP_elim h
            obtain ⟨x9, e9, h⟩ := vI_elim h
            refine J.sub ?_ ((((Sub.base _).upd e0).upd e7).upd e9)
            clear e0 e7 e9
            refine J_seq (fun σ w => vI .i64 (σ 0) fun x0 => vP (σ 7) fun x7 => vI .i64 (σ 9) fun x9 => law10_SpanPlaces.p13 K x0 x7 x9 w) ?_ ?_
            ·
              refine J_seq (fun σ w => vI .i64 (σ 0) fun x0 => vP (σ 7) fun x7 => vI .i64 (σ 9) fun x9 => vI .i64 (σ 10) fun x10 => law10_SpanPlaces.p5 K x0 x7 x9 x10 w) ?_ ?_
              ·
                exact sh_sound _ _ _ _ (Eq.mp (by kernel_rfl) h)
              · intro σ w h
                obtain ⟨x0, e0, h⟩ := vI_elim h
                obtain ⟨x7, e7, h⟩ := vP_elim h
                obtain ⟨x9, e9, h⟩ := vI_elim h
                obtain ⟨x10, e10, h⟩ := vI_elim h
                refine J.sub ?_ (((((Sub.base _).upd e0).upd e7).upd e9).upd e10)
                clear e0 e7 e9 e10
                refine J_block ?_
                refine J_loop (fun k σ w => vI .i64 (σ 0) fun x0 => vP (σ 7) fun x7 => vI .i64 (σ 9) fun x9 => vI .i64 (σ 10) fun x10 => law10_SpanPlaces.l0 K k x0 x7 x9 x10 w) (Eq.mp (by kernel_rfl) h) ?_ ?_
                · intro σ w h
                  obtain ⟨x0, e0, h⟩ := vI_elim h
                  obtain ⟨x7, e7, h⟩ := vP_elim h
                  obtain ⟨x9, e9, h⟩ := vI_elim h
                  obtain ⟨x10, e10, h⟩ := vI_elim h
                  exact h
                · intro k0 σ w h
                  obtain ⟨x0, e0, h⟩ := vI_elim h
                  obtain ⟨x7, e7, h⟩ := vP_elim h
                  obtain ⟨x9, e9, h⟩ := vI_elim h
                  obtain ⟨x10, e10, h⟩ := vI_elim h
                  refine J.sub ?_ (((((Sub.base _).upd e0).upd e7).upd e9).upd e10)
                  clear e0 e7 e9 e10
                  refine J_seq (fun σ w => vI .i64 (σ 0) fun x0 => vP (σ 7) fun x7 => vI .i64 (σ 9) fun x9 => vI .i64 (σ 10) fun x10 => law10_SpanPlaces.p6 (law10_SpanPlaces.l0 K k0) K x0 x7 x9 x10 w) ?_ ?_
                  ·
                    exact sh_sound _ _ _ _ (Eq.mp (by kernel_rfl) h)
                  · intro σ w h
                    obtain ⟨x0, e0, h⟩ := vI_elim h
                    obtain ⟨x7, e7, h⟩ := vP_elim h
                    obtain ⟨x9, e9, h⟩ := vI_elim h
                    obtain ⟨x10, e10, h⟩ := vI_elim h
                    refine J.sub ?_ (((((Sub.base _).upd e0).upd e7).upd e9).upd e10)
                    clear e0 e7 e9 e10
                    refine J_seq (fun σ w => vI .i64 (σ 0) fun x0 => vP (σ 7) fun x7 => vI .i64 (σ 9) fun x9 => vI .i64 (σ 10) fun x10 => law10_SpanPlaces.p12 (law10_SpanPlaces.l0 K k0) K x0 x7 x9 x10 w) ?_ ?_
                    ·
                      refine J_block ?_
                      refine J_seq (fun σ w => vI .i64 (σ 0) fun x0 => vP (σ 7) fun x7 => vI .i64 (σ 9) fun x9 => vI .i64 (σ 10) fun x10 => vI .i64 (σ 11) fun x11 => vB (σ 12) fun x12 => law10_SpanPlaces.p7 (law10_SpanPlaces.l0 K k0) K x0 x7 x9 x10 x11 x12 w) ?_ ?_
                      ·
                        exact sh_sound _ _ _ _ (Eq.mp (by kernel_rfl) h)
                      · intro σ w h
                        obtain ⟨x0, e0, h⟩ := vI_elim h
                        obtain ⟨x7, e7, h⟩ := vP_elim h
                        obtain ⟨x9, e9, h⟩ := vI_elim h
                        obtain ⟨x10, e10, h⟩ := vI_elim h
                        obtain ⟨x11, e11, h⟩ := vI_elim h
                        obtain ⟨x12, e12, h⟩ := vB_elim h
                        refine J.sub ?_ (((((((Sub.base _).upd e0).upd e7).upd e9).upd e10).upd e11).upd e12)
                        clear e0 e7 e9 e10 e11 e12
                        refine J_seq (fun σ w => vI .i64 (σ 0) fun x0 => vP (σ 7) fun x7 => vI .i64 (σ 9) fun x9 => vI .i64 (σ 10) fun x10 => vI .i64 (σ 11) fun x11 => vB (σ 12) fun x12 => vI .i64 (σ 13) fun x13 => vB (σ 14) fun x14 => law10_SpanPlaces.p8 (law10_SpanPlaces.l0 K k0) K x0 x7 x9 x10 x11 x12 x13 x14 w) ?_ ?_
                        ·
                          exact sh_sound _ _ _ _ (Eq.mp (by kernel_rfl) h)
                        · intro σ w h
                          obtain ⟨x0, e0, h⟩ := vI_elim h
                          obtain ⟨x7, e7, h⟩ := vP_elim h
                          obtain ⟨x9, e9, h⟩ := vI_elim h
                          obtain ⟨x10, e10, h⟩ := vI_elim h
                          obtain ⟨x11, e11, h⟩ := vI_elim h
                          obtain ⟨x12, e12, h⟩ := vB_elim h
                          obtain ⟨x13, e13, h⟩ := vI_elim h
                          obtain ⟨x14, e14, h⟩ := vB_elim h
                          refine J.sub ?_ (((((((((Sub.base _).upd e0).upd e7).upd e9).upd e10).upd e11).upd e12).upd e13).upd e14)
                          clear e0 e7 e9 e10 e11 e12 e13 e14
                          refine J_seq (fun σ w => vI .i64 (σ 0) fun x0 => vP (σ 7) fun x7 => vI .i64 (σ 9) fun x9 => vI .i64 (σ 10) fun x10 => vI .i64 (σ 11) fun x11 => vB (σ 12) fun x12 => vI .i64 (σ 13) fun x13 => vB (σ 14) fun x14 => vB (σ 16) fun x16 => law10_SpanPlaces.p9 (law10_SpanPlaces.l0 K k0) K x0 x7 x9 x10 x11 x12 x13 x14 x16 w) ?_ ?_
                          ·
                            exact sh_sound _ _ _ _ (Eq.mp (by kernel_rfl) h)
                          · intro σ w h
                            obtain ⟨x0, e0, h⟩ := vI_elim h
                            obtain ⟨x7, e7, h⟩ := vP_elim h
                            obtain ⟨x9, e9, h⟩ := vI_elim h
                            obtain ⟨x10, e10, h⟩ := vI_elim h
                            obtain ⟨x11, e11, h⟩ := vI_elim h
                            obtain ⟨x12, e12, h⟩ := vB_elim h
                            obtain ⟨x13, e13, h⟩ := vI_elim h
                            obtain ⟨x14, e14, h⟩ := vB_elim h
                            obtain ⟨x16, e16, h⟩ := vB_elim h
                            refine J.sub ?_ ((((((((((Sub.base _).upd e0).upd e7).upd e9).upd e10).upd e11).upd e12).upd e13).upd e14).upd e16)
                            clear e0 e7 e9 e10 e11 e12 e13 e14 e16
                            refine J_seq (fun σ w => vI .i64 (σ 0) fun x0 => vP (σ 7) fun x7 => vI .i64 (σ 10) fun x10 => vI .i64 (σ 11) fun x11 => law10_SpanPlaces.p11 (law10_SpanPlaces.l0 K k0) K x0 x7 x10 x11 w) ?_ ?_
                            ·
                              refine J_seq (fun σ w => vI .i64 (σ 0) fun x0 => vP (σ 7) fun x7 => vI .i64 (σ 10) fun x10 => vI .i64 (σ 11) fun x11 => vB (σ 82) fun x82 => law10_SpanPlaces.p10 (law10_SpanPlaces.l0 K k0) K x0 x7 x10 x11 x82 w) ?_ ?_
                              ·
                                exact sh_sound _ _ _ _ (Eq.mp (by kernel_rfl) h)
                              · intro σ w h
                                obtain ⟨x0, e0, h⟩ := vI_elim h
                                obtain ⟨x7, e7, h⟩ := vP_elim h
                                obtain ⟨x10, e10, h⟩ := vI_elim h
                                obtain ⟨x11, e11, h⟩ := vI_elim h
                                obtain ⟨x82, e82, h⟩ := vB_elim h
                                refine J.sub ?_ ((((((Sub.base _).upd e0).upd e7).upd e10).upd e11).upd e82)
                                clear e0 e7 e10 e11 e82
                                exact sh_sound _ _ _ _ (Eq.mp (by kernel_rfl) h)
                            · intro σ w h
                              obtain ⟨x0, e0, h⟩ := vI_elim h
                              obtain ⟨x7, e7, h⟩ := vP_elim h
                              obtain ⟨x10, e10, h⟩ := vI_elim h
                              obtain ⟨x11, e11, h⟩ := vI_elim h
                              refine J.sub ?_ (((((Sub.base _).upd e0).upd e7).upd e10).upd e11)
                              clear e0 e7 e10 e11
                              exact sh_sound _ _ _ _ (Eq.mp (by kernel_rfl) h)
                    · intro σ w h
                      obtain ⟨x0, e0, h⟩ := vI_elim h
                      obtain ⟨x7, e7, h⟩ := vP_elim h
                      obtain ⟨x9, e9, h⟩ := vI_elim h
                      obtain ⟨x10, e10, h⟩ := vI_elim h
                      refine J.sub ?_ (((((Sub.base _).upd e0).upd e7).upd e9).upd e10)
                      clear e0 e7 e9 e10
                      exact sh_sound _ _ _ _ (Eq.mp (by kernel_rfl) h)
            · intro σ w h
              obtain ⟨x0, e0, h⟩ := vI_elim h
              obtain ⟨x7, e7, h⟩ := vP_elim h
              obtain ⟨x9, e9, h⟩ := vI_elim h
              refine J.sub ?_ ((((Sub.base _).upd e0).upd e7).upd e9)
              clear e0 e7 e9
              refine J_seq (fun σ w => vI .i64 (σ 0) fun x0 => vP (σ 7) fun x7 => vI .i64 (σ 9) fun x9 => vB (σ 18) fun x18 => law10_SpanPlaces.p14 K x0 x7 x9 x18 w) ?_ ?_
              ·
                exact sh_sound _ _ _ _ (Eq.mp (by kernel_rfl) h)
              · intro σ w h
                obtain ⟨x0, e0, h⟩ := vI_elim h
                obtain ⟨x7, e7, h⟩ := vP_elim h
                obtain ⟨x9, e9, h⟩ := vI_elim h
                obtain ⟨x18, e18, h⟩ := vB_elim h
                refine J.sub ?_ (((((Sub.base _).upd e0).upd e7).upd e9).upd e18)
                clear e0 e7 e9 e18
                refine J_seq (fun σ w => vI .i64 (σ 0) fun x0 => vP (σ 7) fun x7 => vI .i64 (σ 9) fun x9 => vB (σ 18) fun x18 => vB (σ 20) fun x20 => law10_SpanPlaces.p15 K x0 x7 x9 x18 x20 w) ?_ ?_
                ·
                  exact sh_sound _ _ _ _ (Eq.mp (by kernel_rfl) h)
                · intro σ w h
                  obtain ⟨x0, e0, h⟩ := vI_elim h
                  obtain ⟨x7, e7, h⟩ := vP_elim h
                  obtain ⟨x9, e9, h⟩ := vI_elim h
                  obtain ⟨x18, e18, h⟩ := vB_elim h
                  obtain ⟨x20, e20, h⟩ := vB_elim h
                  refine J.sub ?_ ((((((Sub.base _).upd e0).upd e7).upd e9).upd e18).upd e20)
                  clear e0 e7 e9 e18 e20
                  refine J_seq (fun σ w => vB (σ 6) fun x6 => law10_SpanPlaces.p16 K x6 w) ?_ ?_
                  ·
                    exact sh_sound _ _ _ _ (Eq.mp (by kernel_rfl) h)
                  · intro σ w h
                    obtain ⟨x6, e6, h⟩ := vB_elim h
                    refine J.sub ?_ ((Sub.base _).upd e6)
                    clear e6
                    exact sh_sound _ _ _ _ (Eq.mp (by kernel_rfl) h)

/-! ### hayloft/hayloftlaw10.SpanBack: function 4 -/
abbrev law10_SpanBack.p6 (K : Value → World → Prop) (x4 : Bool) (w : World) : Prop :=
  K (.bool x4) w
abbrev law10_SpanBack.p19 (L2 : Option Addr → Nat → Nat → Option Addr → Int → World → Prop) (K : Value → World → Prop) (x1A : Option Addr) (x1n : Nat) (x1c : Nat) (x6 : Option Addr) (x11 : Int) (w : World) : Prop :=
  L2 x1A x1n x1c x6 (IntKind.wrap .i64 (x11 + (1 : Int))) w
abbrev law10_SpanBack.p18 (L2 : Option Addr → Nat → Nat → Option Addr → Int → World → Prop) (K : Value → World → Prop) (x1A : Option Addr) (x1n : Nat) (x1c : Nat) (x6 : Option Addr) (x11 : Int) (w : World) : Prop :=
  (0 ≤ x11 ∧ x11 < ((x1n : Nat) : Int)) ∧ ∃ (a98 : Addr), x1A = some a98 ∧ ∃ (n99 : Int), w.cell? (a98.add (x11.toNat * 2)) = some (.int .i64 n99) ∧ condP (n99 == (1 : Int)) (CallsE Tryd.prog 20 #[.pointer x6] w (fun v100 w101 => ∃ (n102 : Int) (b103 : Bool), v100 = .tuple #[.int .i64 n102, .bool b103] ∧ law10_SpanBack.p19 L2 K x1A x1n x1c x6 x11 w101)) ((0 ≤ x11 ∧ x11 < ((x1n : Nat) : Int)) ∧ ∃ (a104 : Addr), x1A = some a104 ∧ ∃ (n105 : Int), w.cell? ((a104.add (x11.toNat * 2)).add 1) = some (.int .i64 n105) ∧ CallsE Tryd.prog 21 #[.pointer x6, .int .i64 n105] w (fun v106 w107 => ∃ (b108 : Bool), v106 = .bool b108 ∧ law10_SpanBack.p19 L2 K x1A x1n x1c x6 x11 w107))
abbrev law10_SpanBack.p22 (K : Value → World → Prop) (x4 : Bool) (w : World) : Prop :=
  K (.bool x4) w
abbrev law10_SpanBack.p21 (K : Value → World → Prop) (x6 : Option Addr) (x12 : Option Addr) (x13 : Int) (w : World) : Prop :=
  condP (x13 == (0 : Int)) (CallsE Tryd.prog 19 #[.pointer x12] w (fun v121 w122 => ∃ (n123 : Int) (n124 : Int) (n125 : Int) (A126 : Option Addr) (m127 : Nat) (c128 : Nat), v121 = .agg #[.int .i64 n123, .int .i64 n124, .int .i64 n125, .slice A126 m127 c128] ∧ CallsE Tryd.prog 19 #[.pointer x6] w122 (fun v129 w130 => ∃ (n131 : Int) (n132 : Int) (n133 : Int) (A134 : Option Addr) (m135 : Nat) (c136 : Nat), v129 = .agg #[.int .i64 n131, .int .i64 n132, .int .i64 n133, .slice A134 m135 c136] ∧ CallsE Tryd.prog 18 #[.agg #[.int .i64 n123, .int .i64 n124, .int .i64 n125, .slice A126 m127 c128], .agg #[.int .i64 n131, .int .i64 n132, .int .i64 n133, .slice A134 m135 c136]] w130 (fun v137 w138 => ∃ (b139 : Bool), v137 = .bool b139 ∧ law10_SpanBack.p22 K b139 w138)))) (law10_SpanBack.p22 K false w)
abbrev law10_SpanBack.p20 (K : Value → World → Prop) (x6 : Option Addr) (w : World) : Prop :=
  CallsE Tryd.prog 19 #[.pointer x6] w (fun v109 w110 => ∃ (n111 : Int) (n112 : Int) (n113 : Int) (A114 : Option Addr) (m115 : Nat) (c116 : Nat), v109 = .agg #[.int .i64 n111, .int .i64 n112, .int .i64 n113, .slice A114 m115 c116] ∧ CallsE Tryd.prog 16 #[.agg #[.int .i64 n111, .int .i64 n112, .int .i64 n113, .slice A114 m115 c116]] w110 (fun v117 w118 => ∃ (p119 : Option Addr) (n120 : Int), v117 = .tuple #[.pointer p119, .int .i64 n120] ∧ law10_SpanBack.p21 K x6 p119 n120 w118))
abbrev law10_SpanBack.p17 (L2 : Option Addr → Nat → Nat → Option Addr → Int → World → Prop) (K : Value → World → Prop) (x1A : Option Addr) (x1n : Nat) (x1c : Nat) (x6 : Option Addr) (x11 : Int) (x82 : Bool) (w : World) : Prop :=
  condP x82 (law10_SpanBack.p18 L2 K x1A x1n x1c x6 x11 w) (law10_SpanBack.p20 K x6 w)
abbrev law10_SpanBack.b2 (L2 : Option Addr → Nat → Nat → Option Addr → Int → World → Prop) (K : Value → World → Prop) (x1A : Option Addr) (x1n : Nat) (x1c : Nat) (x6 : Option Addr) (x11 : Int) (w : World) : Prop :=
  condP (decide (x11 < ((x1n : Nat) : Int))) (law10_SpanBack.p17 L2 K x1A x1n x1c x6 x11 (decide (x11 < (100 : Int))) w) (law10_SpanBack.p17 L2 K x1A x1n x1c x6 x11 false w)
def law10_SpanBack.l2 (K : Value → World → Prop) (k : Nat) : Option Addr → Nat → Nat → Option Addr → Int → World → Prop :=
  Nat.rec (motive := fun _ => Option Addr → Nat → Nat → Option Addr → Int → World → Prop) (fun _ _ _ _ _ _ => False) (fun _ ih => law10_SpanBack.b2 ih K) k
theorem law10_SpanBack.l2_succ (K : Value → World → Prop) (k : Nat) (x1A : Option Addr) (x1n : Nat) (x1c : Nat) (x6 : Option Addr) (x11 : Int) (w : World) : law10_SpanBack.l2 K (k + 1) x1A x1n x1c x6 x11 w = law10_SpanBack.b2 (law10_SpanBack.l2 K k) K x1A x1n x1c x6 x11 w := rfl
abbrev law10_SpanBack.p16 (K : Value → World → Prop) (x1A : Option Addr) (x1n : Nat) (x1c : Nat) (x6 : Option Addr) (x11 : Int) (w : World) : Prop :=
  ∃ k, law10_SpanBack.l2 K k x1A x1n x1c x6 x11 w
abbrev law10_SpanBack.p15 (K : Value → World → Prop) (x1A : Option Addr) (x1n : Nat) (x1c : Nat) (x6 : Option Addr) (w : World) : Prop :=
  law10_SpanBack.p16 K x1A x1n x1c x6 0 w
abbrev law10_SpanBack.p14 (K : Value → World → Prop) (x1A : Option Addr) (x1n : Nat) (x1c : Nat) (x5A : Option Addr) (x5n : Nat) (x5c : Nat) (x6 : Option Addr) (w : World) : Prop :=
  CallsE Tryd.prog 19 #[.pointer x6] w (fun v87 w88 => ∃ (n89 : Int) (n90 : Int) (n91 : Int) (A92 : Option Addr) (m93 : Nat) (c94 : Nat), v87 = .agg #[.int .i64 n89, .int .i64 n90, .int .i64 n91, .slice A92 m93 c94] ∧ CallsE Tryd.prog 17 #[.slice A92 m93 c94, .slice x5A x5n x5c] w88 (fun v95 w96 => ∃ (b97 : Bool), v95 = .bool b97 ∧ condP (!b97) (K (.bool false) w96) (law10_SpanBack.p15 K x1A x1n x1c x6 w96)))
abbrev law10_SpanBack.b1 (L1 : Option Addr → Nat → Nat → Option Addr → Nat → Nat → Option Addr → Addr → Int → Int → World → Prop) (K : Value → World → Prop) (x1A : Option Addr) (x1n : Nat) (x1c : Nat) (x5A : Option Addr) (x5n : Nat) (x5c : Nat) (x6 : Option Addr) (x9 : Addr) (x60 : Int) (x61 : Int) (w : World) : Prop :=
  condP (decide (x61 < x60)) (∃ (A82 : Option Addr) (m83 : Nat) (c84 : Nat), w.cell? (x9.add 3) = some (.slice A82 m83 c84) ∧ (0 ≤ x61 ∧ x61 < ((m83 : Nat) : Int)) ∧ ∃ (a85 : Addr), A82 = some a85 ∧ canStore w (a85.add x61.toNat) ∧ wlet (w.setCell (a85.add x61.toNat) (.int .i64 (-1))) fun w86 => L1 x1A x1n x1c x5A x5n x5c x6 x9 x60 (IntKind.wrap .i64 (x61 + (1 : Int))) w86) (law10_SpanBack.p14 K x1A x1n x1c x5A x5n x5c x6 w)
def law10_SpanBack.l1 (K : Value → World → Prop) (k : Nat) : Option Addr → Nat → Nat → Option Addr → Nat → Nat → Option Addr → Addr → Int → Int → World → Prop :=
  Nat.rec (motive := fun _ => Option Addr → Nat → Nat → Option Addr → Nat → Nat → Option Addr → Addr → Int → Int → World → Prop) (fun _ _ _ _ _ _ _ _ _ _ _ => False) (fun _ ih => law10_SpanBack.b1 ih K) k
theorem law10_SpanBack.l1_succ (K : Value → World → Prop) (k : Nat) (x1A : Option Addr) (x1n : Nat) (x1c : Nat) (x5A : Option Addr) (x5n : Nat) (x5c : Nat) (x6 : Option Addr) (x9 : Addr) (x60 : Int) (x61 : Int) (w : World) : law10_SpanBack.l1 K (k + 1) x1A x1n x1c x5A x5n x5c x6 x9 x60 x61 w = law10_SpanBack.b1 (law10_SpanBack.l1 K k) K x1A x1n x1c x5A x5n x5c x6 x9 x60 x61 w := rfl
abbrev law10_SpanBack.p13 (K : Value → World → Prop) (x1A : Option Addr) (x1n : Nat) (x1c : Nat) (x5A : Option Addr) (x5n : Nat) (x5c : Nat) (x6 : Option Addr) (x9 : Addr) (x60 : Int) (x61 : Int) (w : World) : Prop :=
  ∃ k, law10_SpanBack.l1 K k x1A x1n x1c x5A x5n x5c x6 x9 x60 x61 w
abbrev law10_SpanBack.p12 (K : Value → World → Prop) (x1A : Option Addr) (x1n : Nat) (x1c : Nat) (x5A : Option Addr) (x5n : Nat) (x5c : Nat) (x6 : Option Addr) (x9 : Addr) (w : World) : Prop :=
  ∃ (A79 : Option Addr) (m80 : Nat) (c81 : Nat), w.cell? (x9.add 3) = some (.slice A79 m80 c81) ∧ law10_SpanBack.p13 K x1A x1n x1c x5A x5n x5c x6 x9 ((m80 : Nat) : Int) 0 w
abbrev law10_SpanBack.p11 (K : Value → World → Prop) (x1A : Option Addr) (x1n : Nat) (x1c : Nat) (x5A : Option Addr) (x5n : Nat) (x5c : Nat) (x6 : Option Addr) (w : World) : Prop :=
  CallsE Tryd.prog 19 #[.pointer x6] w (fun v66 w67 => ∃ (n68 : Int) (n69 : Int) (n70 : Int) (A71 : Option Addr) (m72 : Nat) (c73 : Nat), v66 = .agg #[.int .i64 n68, .int .i64 n69, .int .i64 n70, .slice A71 m72 c73] ∧ wlet (w67.alloc (.cells #[.int .i64 0, .int .i64 0, .int .i64 0, .slice none 0 0] 33)) fun w74 => canStore w74 (⟨w67.heap.size, 0, none⟩) ∧ wlet (w74.setCell (⟨w67.heap.size, 0, none⟩) (.int .i64 n68)) fun w75 => canStore w75 (⟨w67.heap.size, 1, none⟩) ∧ wlet (w75.setCell (⟨w67.heap.size, 1, none⟩) (.int .i64 n69)) fun w76 => canStore w76 (⟨w67.heap.size, 2, none⟩) ∧ wlet (w76.setCell (⟨w67.heap.size, 2, none⟩) (.int .i64 n70)) fun w77 => canStore w77 (⟨w67.heap.size, 3, none⟩) ∧ wlet (w77.setCell (⟨w67.heap.size, 3, none⟩) (.slice A71 m72 c73)) fun w78 => law10_SpanBack.p12 K x1A x1n x1c x5A x5n x5c x6 (⟨w67.heap.size, 0, none⟩) w78)
abbrev law10_SpanBack.b0 (L0 : Option Addr → Nat → Nat → Addr → Option Addr → Nat → Nat → Option Addr → Int → Int → World → Prop) (K : Value → World → Prop) (x1A : Option Addr) (x1n : Nat) (x1c : Nat) (x2 : Addr) (x5A : Option Addr) (x5n : Nat) (x5c : Nat) (x6 : Option Addr) (x47 : Int) (x48 : Int) (w : World) : Prop :=
  condP (decide (x48 < x47)) (∃ (A61 : Option Addr) (m62 : Nat) (c63 : Nat), w.cell? (x2.add 3) = some (.slice A61 m62 c63) ∧ (0 ≤ x48 ∧ x48 < ((m62 : Nat) : Int)) ∧ ∃ (a64 : Addr), A61 = some a64 ∧ canStore w (a64.add x48.toNat) ∧ wlet (w.setCell (a64.add x48.toNat) (.int .i64 (-1))) fun w65 => L0 x1A x1n x1c x2 x5A x5n x5c x6 x47 (IntKind.wrap .i64 (x48 + (1 : Int))) w65) (law10_SpanBack.p11 K x1A x1n x1c x5A x5n x5c x6 w)
def law10_SpanBack.l0 (K : Value → World → Prop) (k : Nat) : Option Addr → Nat → Nat → Addr → Option Addr → Nat → Nat → Option Addr → Int → Int → World → Prop :=
  Nat.rec (motive := fun _ => Option Addr → Nat → Nat → Addr → Option Addr → Nat → Nat → Option Addr → Int → Int → World → Prop) (fun _ _ _ _ _ _ _ _ _ _ _ => False) (fun _ ih => law10_SpanBack.b0 ih K) k
theorem law10_SpanBack.l0_succ (K : Value → World → Prop) (k : Nat) (x1A : Option Addr) (x1n : Nat) (x1c : Nat) (x2 : Addr) (x5A : Option Addr) (x5n : Nat) (x5c : Nat) (x6 : Option Addr) (x47 : Int) (x48 : Int) (w : World) : law10_SpanBack.l0 K (k + 1) x1A x1n x1c x2 x5A x5n x5c x6 x47 x48 w = law10_SpanBack.b0 (law10_SpanBack.l0 K k) K x1A x1n x1c x2 x5A x5n x5c x6 x47 x48 w := rfl
abbrev law10_SpanBack.p10 (K : Value → World → Prop) (x1A : Option Addr) (x1n : Nat) (x1c : Nat) (x2 : Addr) (x5A : Option Addr) (x5n : Nat) (x5c : Nat) (x6 : Option Addr) (x47 : Int) (x48 : Int) (w : World) : Prop :=
  ∃ k, law10_SpanBack.l0 K k x1A x1n x1c x2 x5A x5n x5c x6 x47 x48 w
abbrev law10_SpanBack.p9 (K : Value → World → Prop) (x1A : Option Addr) (x1n : Nat) (x1c : Nat) (x2 : Addr) (x5A : Option Addr) (x5n : Nat) (x5c : Nat) (x6 : Option Addr) (w : World) : Prop :=
  ∃ (A58 : Option Addr) (m59 : Nat) (c60 : Nat), w.cell? (x2.add 3) = some (.slice A58 m59 c60) ∧ law10_SpanBack.p10 K x1A x1n x1c x2 x5A x5n x5c x6 ((m59 : Nat) : Int) 0 w
abbrev law10_SpanBack.p8 (K : Value → World → Prop) (x1A : Option Addr) (x1n : Nat) (x1c : Nat) (x2 : Addr) (x5A : Option Addr) (x5n : Nat) (x5c : Nat) (x6 : Option Addr) (x44 : Bool) (w : World) : Prop :=
  condP x44 (K (.bool false) w) (law10_SpanBack.p9 K x1A x1n x1c x2 x5A x5n x5c x6 w)
abbrev law10_SpanBack.p7 (K : Value → World → Prop) (x1A : Option Addr) (x1n : Nat) (x1c : Nat) (x2 : Addr) (x5A : Option Addr) (x5n : Nat) (x5c : Nat) (x6 : Option Addr) (w : World) : Prop :=
  ∃ (S40 : Array Obj → Prop), S40 w.heap ∧ ∃ (n41 : Int), (∀ w' : World, S40 w'.heap → w'.cell? x2 = some (.int .i64 n41)) ∧ ∃ (n42 : Int), (∀ w' : World, S40 w'.heap → w'.cell? (x2.add 1) = some (.int .i64 n42)) ∧ ∃ (n43 : Int), (∀ w' : World, S40 w'.heap → w'.cell? (x2.add 2) = some (.int .i64 n43)) ∧ ∃ (A44 : Option Addr) (m45 : Nat) (c46 : Nat), (∀ w' : World, S40 w'.heap → w'.cell? (x2.add 3) = some (.slice A44 m45 c46)) ∧ CallsE Tryd.prog 19 #[.pointer x6] w (fun v47 w48 => ∃ (n49 : Int) (n50 : Int) (n51 : Int) (A52 : Option Addr) (m53 : Nat) (c54 : Nat), v47 = .agg #[.int .i64 n49, .int .i64 n50, .int .i64 n51, .slice A52 m53 c54] ∧ S40 w48.heap ∧ CallsE Tryd.prog 18 #[.agg #[.int .i64 n49, .int .i64 n50, .int .i64 n51, .slice A52 m53 c54], .agg #[.int .i64 n41, .int .i64 n42, .int .i64 n43, .slice A44 m45 c46]] w48 (fun v55 w56 => ∃ (b57 : Bool), v55 = .bool b57 ∧ law10_SpanBack.p8 K x1A x1n x1c x2 x5A x5n x5c x6 (!b57) w56))
abbrev law10_SpanBack.p5 (K : Value → World → Prop) (x1A : Option Addr) (x1n : Nat) (x1c : Nat) (x2 : Addr) (x5A : Option Addr) (x5n : Nat) (x5c : Nat) (x6 : Option Addr) (x31 : Bool) (w : World) : Prop :=
  condP x31 (condP x6.isNone (∃ (A34 : Option Addr) (m35 : Nat) (c36 : Nat), w.cell? (x2.add 3) = some (.slice A34 m35 c36) ∧ CallsE Tryd.prog 17 #[.slice A34 m35 c36, .slice x5A x5n x5c] w (fun v37 w38 => ∃ (b39 : Bool), v37 = .bool b39 ∧ law10_SpanBack.p6 K b39 w38)) (law10_SpanBack.p6 K false w)) (law10_SpanBack.p7 K x1A x1n x1c x2 x5A x5n x5c x6 w)
abbrev law10_SpanBack.p4 (K : Value → World → Prop) (x1A : Option Addr) (x1n : Nat) (x1c : Nat) (x2 : Addr) (x5A : Option Addr) (x5n : Nat) (x5c : Nat) (x6 : Option Addr) (x7 : Int) (w : World) : Prop :=
  law10_SpanBack.p5 K x1A x1n x1c x2 x5A x5n x5c x6 (x7 != (0 : Int)) w
abbrev law10_SpanBack.p3 (K : Value → World → Prop) (x1A : Option Addr) (x1n : Nat) (x1c : Nat) (x2 : Addr) (x5A : Option Addr) (x5n : Nat) (x5c : Nat) (w : World) : Prop :=
  ∃ (n24 : Int), w.cell? x2 = some (.int .i64 n24) ∧ ∃ (n25 : Int), w.cell? (x2.add 1) = some (.int .i64 n25) ∧ ∃ (n26 : Int), w.cell? (x2.add 2) = some (.int .i64 n26) ∧ ∃ (A27 : Option Addr) (m28 : Nat) (c29 : Nat), w.cell? (x2.add 3) = some (.slice A27 m28 c29) ∧ CallsE Tryd.prog 16 #[.agg #[.int .i64 n24, .int .i64 n25, .int .i64 n26, .slice A27 m28 c29]] w (fun v30 w31 => ∃ (p32 : Option Addr) (n33 : Int), v30 = .tuple #[.pointer p32, .int .i64 n33] ∧ law10_SpanBack.p4 K x1A x1n x1c x2 x5A x5n x5c p32 n33 w31)
abbrev law10_SpanBack.p2 (K : Value → World → Prop) (x1A : Option Addr) (x1n : Nat) (x1c : Nat) (x2 : Addr) (x5A : Option Addr) (x5n : Nat) (x5c : Nat) (w : World) : Prop :=
  wlet (w.alloc (.cells #[] 3)) fun w14 => ∃ (A15 : Option Addr) (m16 : Nat) (c17 : Nat), w14.cell? (x2.add 3) = some (.slice A15 m16 c17) ∧ SemJ Tryd.prog (Builtin.append_ #[31, 31] 31 #[.slice (some ⟨w.heap.size, 0, none⟩) 0 0, .slice A15 m16 c17]) (fun v18 w19 => ∃ (A20 : Option Addr) (m21 : Nat) (c22 : Nat), v18 = .slice A20 m21 c22 ∧ canStore w19 (x2.add 3) ∧ wlet (w19.setCell (x2.add 3) (.slice A20 m21 c22)) fun w23 => law10_SpanBack.p3 K x1A x1n x1c x2 x5A x5n x5c w23) w14
abbrev law10_SpanBack.p1 (K : Value → World → Prop) (x1A : Option Addr) (x1n : Nat) (x1c : Nat) (x2 : Addr) (w : World) : Prop :=
  wlet (w.alloc (.cells #[] 3)) fun w5 => ∃ (A6 : Option Addr) (m7 : Nat) (c8 : Nat), w5.cell? (x2.add 3) = some (.slice A6 m7 c8) ∧ SemJ Tryd.prog (Builtin.append_ #[31, 31] 31 #[.slice (some ⟨w.heap.size, 0, none⟩) 0 0, .slice A6 m7 c8]) (fun v9 w10 => ∃ (A11 : Option Addr) (m12 : Nat) (c13 : Nat), v9 = .slice A11 m12 c13 ∧ law10_SpanBack.p2 K x1A x1n x1c x2 A11 m12 c13 w10) w5
abbrev law10_SpanBack.p0 (K : Value → World → Prop) (x1A : Option Addr) (x1n : Nat) (x1c : Nat) (x2 : Addr) (w : World) : Prop :=
  CallsE Tryd.prog 9 #[] w (fun v2 w3 => ∃ (b4 : Bool), v2 = .bool b4 ∧ condP (!b4) (K (.bool false) w3) (law10_SpanBack.p1 K x1A x1n x1c x2 w3))
abbrev law10_SpanBack.F (q0_0 : Int) (q0_1 : Int) (q0_2 : Int) (q0_3A : Option Addr) (q0_3n : Nat) (q0_3c : Nat) (q1A : Option Addr) (q1n : Nat) (q1c : Nat) (K : Value → World → Prop) (w : World) : Prop :=
  wlet (w.alloc (.cells #[.int .i64 q0_0, .int .i64 q0_1, .int .i64 q0_2, .slice q0_3A q0_3n q0_3c] 33)) fun w1 => law10_SpanBack.p0 K q1A q1n q1c (⟨w.heap.size, 0, none⟩) w1
theorem law10_SpanBack.ok {q0_0 : Int} {q0_1 : Int} {q0_2 : Int} {q0_3A : Option Addr} {q0_3n : Nat} {q0_3c : Nat} {q1A : Option Addr} {q1n : Nat} {q1c : Nat} {K : Value → World → Prop} {w : World} (h : law10_SpanBack.F q0_0 q0_1 q0_2 q0_3A q0_3n q0_3c q1A q1n q1c K w) :
    CallsE Tryd.prog 4 #[.agg #[.int .i64 q0_0, .int .i64 q0_1, .int .i64 q0_2, .slice q0_3A q0_3n q0_3c], .slice q1A q1n q1c] w K := by
  refine calls_of_J (n := 115) (rs := [.tmp 4]) Tryd.func4 rfl rfl rfl rfl ?_
  refine J_seq (fun σ w => vS (σ 1) fun x1A x1n x1c => vPa (σ 2) fun x2 => law10_SpanBack.p0 K x1A x1n x1c x2 w) ?_ ?_
  ·
    exact sh_sound _ _ _ _ (Eq.mp (by kernel_rfl) h)
  · intro σ w h
    obtain ⟨x1A, x1n, x1c, e1, h⟩ := vS_elim h
    obtain ⟨x2, e2, h⟩ := vPa_elim h
    refine J.sub ?_ (((Sub.base _).upd e1).upd e2)
    clear e1 e2
    refine J_seq (fun σ w => vS (σ 1) fun x1A x1n x1c => vPa (σ 2) fun x2 => law10_SpanBack.p1 K x1A x1n x1c x2 w) ?_ ?_
    ·
      exact sh_sound _ _ _ _ (Eq.mp (by kernel_rfl) h)
    · intro σ w h
      obtain ⟨x1A, x1n, x1c, e1, h⟩ := vS_elim h
      obtain ⟨x2, e2, h⟩ := vPa_elim h
      refine J.sub ?_ (((Sub.base _).upd e1).upd e2)
      clear e1 e2
      refine J_seq (fun σ w => vS (σ 1) fun x1A x1n x1c => vPa (σ 2) fun x2 => vS (σ 5) fun x5A x5n x5c => law10_SpanBack.p2 K x1A x1n x1c x2 x5A x5n x5c w) ?_ ?_
      ·
        exact sh_sound _ _ _ _ (Eq.mp (by kernel_rfl) h)
      · intro σ w h
        obtain ⟨x1A, x1n, x1c, e1, h⟩ := vS_elim h
        obtain ⟨x2, e2, h⟩ := vPa_elim h
        obtain ⟨x5A, x5n, x5c, e5, h⟩ := vS_elim h
        refine J.sub ?_ ((((Sub.base _).upd e1).upd e2).upd e5)
        clear e1 e2 e5
        refine J_seq (fun σ w => vS (σ 1) fun x1A x1n x1c => vPa (σ 2) fun x2 => vS (σ 5) fun x5A x5n x5c => law10_SpanBack.p3 K x1A x1n x1c x2 x5A x5n x5c w) ?_ ?_
        ·
          exact sh_sound _ _ _ _ (Eq.mp (by kernel_rfl) h)
        · intro σ w h
          obtain ⟨x1A, x1n, x1c, e1, h⟩ := vS_elim h
          obtain ⟨x2, e2, h⟩ := vPa_elim h
          obtain ⟨x5A, x5n, x5c, e5, h⟩ := vS_elim h
          refine J.sub ?_ ((((Sub.base _).upd e1).upd e2).upd e5)
          clear e1 e2 e5
          refine J_seq (fun σ w => vS (σ 1) fun x1A x1n x1c => vPa (σ 2) fun x2 => vS (σ 5) fun x5A x5n x5c => vP (σ 6) fun x6 => vI .i64 (σ 7) fun x7 => law10_SpanBack.p4 K x1A x1n x1c x2 x5A x5n x5c x6 x7 w) ?_ ?_
          ·
            exact sh_sound _ _ _ _ (Eq.mp (by kernel_rfl) h)
          · intro σ w h
            obtain ⟨x1A, x1n, x1c, e1, h⟩ := vS_elim h
            obtain ⟨x2, e2, h⟩ := vPa_elim h
            obtain ⟨x5A, x5n, x5c, e5, h⟩ := vS_elim h
            obtain ⟨x6, e6, h⟩ := vP_elim h
            obtain ⟨x7, e7, h⟩ := vI_elim h
            refine J.sub ?_ ((((((Sub.base _).upd e1).upd e2).upd e5).upd e6).upd e7)
            clear e1 e2 e5 e6 e7
            refine J_seq (fun σ w => vS (σ 1) fun x1A x1n x1c => vPa (σ 2) fun x2 => vS (σ 5) fun x5A x5n x5c => vP (σ 6) fun x6 => law10_SpanBack.p7 K x1A x1n x1c x2 x5A x5n x5c x6 w) ?_ ?_
            ·
              refine J_seq (fun σ w => vS (σ 1) fun x1A x1n x1c => vPa (σ 2) fun x2 => vS (σ 5) fun x5A x5n x5c => vP (σ 6) fun x6 => vB (σ 31) fun x31 => law10_SpanBack.p5 K x1A x1n x1c x2 x5A x5n x5c x6 x31 w) ?_ ?_
              ·
                exact sh_sound _ _ _ _ (Eq.mp (by kernel_rfl) h)
              · intro σ w h
                obtain ⟨x1A, x1n, x1c, e1, h⟩ := vS_elim h
                obtain ⟨x2, e2, h⟩ := vPa_elim h
                obtain ⟨x5A, x5n, x5c, e5, h⟩ := vS_elim h
                obtain ⟨x6, e6, h⟩ := vP_elim h
                obtain ⟨x31, e31, h⟩ := vB_elim h
                refine J.sub ?_ ((((((Sub.base _).upd e1).upd e2).upd e5).upd e6).upd e31)
                clear e1 e2 e5 e6 e31
                refine J_cond' h (by kernel_rfl) (fun h => ?_) (fun h => ?_)
                ·
                  refine J_seq (fun σ w => vB (σ 4) fun x4 => law10_SpanBack.p6 K x4 w) ?_ ?_
                  ·
                    exact sh_sound _ _ _ _ (Eq.mp (by kernel_rfl) h)
                  · intro σ w h
                    obtain ⟨x4, e4, h⟩ := vB_elim h
                    refine J.sub ?_ ((Sub.base _).upd e4)
                    clear e4
                    exact sh_sound _ _ _ _ (Eq.mp (by kernel_rfl) h)
                ·
                  exact sh_sound _ _ _ _ (Eq.mp (by kernel_rfl) h)
            · intro σ w h
              obtain ⟨x1A, x1n, x1c, e1, h⟩ := vS_elim h
              obtain ⟨x2, e2, h⟩ := vPa_elim h
              obtain ⟨x5A, x5n, x5c, e5, h⟩ := vS_elim h
              obtain ⟨x6, e6, h⟩ := vP_elim h
              refine J.sub ?_ (((((Sub.base _).upd e1).upd e2).upd e5).upd e6)
              clear e1 e2 e5 e6
              refine J_seq (fun σ w => vS (σ 1) fun x1A x1n x1c => vPa (σ 2) fun x2 => vS (σ 5) fun x5A x5n x5c => vP (σ 6) fun x6 => law10_SpanBack.p9 K x1A x1n x1c x2 x5A x5n x5c x6 w) ?_ ?_
              ·
                refine J_seq (fun σ w => vS (σ 1) fun x1A x1n x1c => vPa (σ 2) fun x2 => vS (σ 5) fun x5A x5n x5c => vP (σ 6) fun x6 => vB (σ 44) fun x44 => law10_SpanBack.p8 K x1A x1n x1c x2 x5A x5n x5c x6 x44 w) ?_ ?_
                ·
                  exact J_held [3] [(0, 0), (2, 1), (1, 2), (3, 3), (4, 0)] (by kernel_rfl) (Eq.mp (by kernel_rfl) h)
                · intro σ w h
                  obtain ⟨x1A, x1n, x1c, e1, h⟩ := vS_elim h
                  obtain ⟨x2, e2, h⟩ := vPa_elim h
                  obtain ⟨x5A, x5n, x5c, e5, h⟩ := vS_elim h
                  obtain ⟨x6, e6, h⟩ := vP_elim h
                  obtain ⟨x44, e44, h⟩ := vB_elim h
                  refine J.sub ?_ ((((((Sub.base _).upd e1).upd e2).upd e5).upd e6).upd e44)
                  clear e1 e2 e5 e6 e44
                  exact sh_sound _ _ _ _ (Eq.mp (by kernel_rfl) h)
              · intro σ w h
                obtain ⟨x1A, x1n, x1c, e1, h⟩ := vS_elim h
                obtain ⟨x2, e2, h⟩ := vPa_elim h
                obtain ⟨x5A, x5n, x5c, e5, h⟩ := vS_elim h
                obtain ⟨x6, e6, h⟩ := vP_elim h
                refine J.sub ?_ (((((Sub.base _).upd e1).upd e2).upd e5).upd e6)
                clear e1 e2 e5 e6
                refine J_seq (fun σ w => vS (σ 1) fun x1A x1n x1c => vS (σ 5) fun x5A x5n x5c => vP (σ 6) fun x6 => law10_SpanBack.p11 K x1A x1n x1c x5A x5n x5c x6 w) ?_ ?_
                ·
                  refine J_seq (fun σ w => vS (σ 1) fun x1A x1n x1c => vPa (σ 2) fun x2 => vS (σ 5) fun x5A x5n x5c => vP (σ 6) fun x6 => vI .i64 (σ 47) fun x47 => vI .i64 (σ 48) fun x48 => law10_SpanBack.p10 K x1A x1n x1c x2 x5A x5n x5c x6 x47 x48 w) ?_ ?_
                  ·
                    exact sh_sound _ _ _ _ (Eq.mp (by kernel_rfl) h)
                  · intro σ w h
                    obtain ⟨x1A, x1n, x1c, e1, h⟩ := vS_elim h
                    obtain ⟨x2, e2, h⟩ := vPa_elim h
                    obtain ⟨x5A, x5n, x5c, e5, h⟩ := vS_elim h
                    obtain ⟨x6, e6, h⟩ := vP_elim h
                    obtain ⟨x47, e47, h⟩ := vI_elim h
                    obtain ⟨x48, e48, h⟩ := vI_elim h
                    refine J.sub ?_ (((((((Sub.base _).upd e1).upd e2).upd e5).upd e6).upd e47).upd e48)
                    clear e1 e2 e5 e6 e47 e48
                    refine J_block ?_
                    refine J_loop (fun k σ w => vS (σ 1) fun x1A x1n x1c => vPa (σ 2) fun x2 => vS (σ 5) fun x5A x5n x5c => vP (σ 6) fun x6 => vI .i64 (σ 47) fun x47 => vI .i64 (σ 48) fun x48 => law10_SpanBack.l0 K k x1A x1n x1c x2 x5A x5n x5c x6 x47 x48 w) (Eq.mp (by kernel_rfl) h) ?_ ?_
                    · intro σ w h
                      obtain ⟨x1A, x1n, x1c, e1, h⟩ := vS_elim h
                      obtain ⟨x2, e2, h⟩ := vPa_elim h
                      obtain ⟨x5A, x5n, x5c, e5, h⟩ := vS_elim h
                      obtain ⟨x6, e6, h⟩ := vP_elim h
                      obtain ⟨x47, e47, h⟩ := vI_elim h
                      obtain ⟨x48, e48, h⟩ := vI_elim h
                      exact h
                    · intro k0 σ w h
                      obtain ⟨x1A, x1n, x1c, e1, h⟩ := vS_elim h
                      obtain ⟨x2, e2, h⟩ := vPa_elim h
                      obtain ⟨x5A, x5n, x5c, e5, h⟩ := vS_elim h
                      obtain ⟨x6, e6, h⟩ := vP_elim h
                      obtain ⟨x47, e47, h⟩ := vI_elim h
                      obtain ⟨x48, e48, h⟩ := vI_elim h
                      refine J.sub ?_ (((((((Sub.base _).upd e1).upd e2).upd e5).upd e6).upd e47).upd e48)
                      clear e1 e2 e5 e6 e47 e48
                      exact sh_sound _ _ _ _ (Eq.mp (by kernel_rfl) h)
                · intro σ w h
                  obtain ⟨x1A, x1n, x1c, e1, h⟩ := vS_elim h
                  obtain ⟨x5A, x5n, x5c, e5, h⟩ := vS_elim h
                  obtain ⟨x6, e6, h⟩ := vP_elim h
                  refine J.sub ?_ ((((Sub.base _).upd e1).upd e5).upd e6)
                  clear e1 e5 e6
                  refine J_seq (fun σ w => vS (σ 1) fun x1A x1n x1c => vS (σ 5) fun x5A x5n x5c => vP (σ 6) fun x6 => vPa (σ 9) fun x9 => law10_SpanBack.p12 K x1A x1n x1c x5A x5n x5c x6 x9 w) ?_ ?_
                  ·
                    exact sh_sound _ _ _ _ (Eq.mp (by kernel_rfl) h)
                  · intro σ w h
                    obtain ⟨x1A, x1n, x1c, e1, h⟩ := vS_elim h
                    obtain ⟨x5A, x5n, x5c, e5, h⟩ := vS_elim h
                    obtain ⟨x6, e6, h⟩ := vP_elim h
                    obtain ⟨x9, e9, h⟩ := vPa_elim h
                    refine J.sub ?_ (((((Sub.base _).upd e1).upd e5).upd e6).upd e9)
                    clear e1 e5 e6 e9
                    refine J_seq (fun σ w => vS (σ 1) fun x1A x1n x1c => vS (σ 5) fun x5A x5n x5c => vP (σ 6) fun x6 => law10_SpanBack.p14 K x1A x1n x1c x5A x5n x5c x6 w) ?_ ?_
                    ·
                      refine J_seq (fun σ w => vS (σ 1) fun x1A x1n x1c => vS (σ 5) fun x5A x5n x5c => vP (σ 6) fun x6 => vPa (σ 9) fun x9 => vI .i64 (σ 60) fun x60 => vI .i64 (σ 61) fun x61 => law10_SpanBack.p13 K x1A x1n x1c x5A x5n x5c x6 x9 x60 x61 w) ?_ ?_
                      ·
                        exact sh_sound _ _ _ _ (Eq.mp (by kernel_rfl) h)
                      · intro σ w h
                        obtain ⟨x1A, x1n, x1c, e1, h⟩ := vS_elim h
                        obtain ⟨x5A, x5n, x5c, e5, h⟩ := vS_elim h
                        obtain ⟨x6, e6, h⟩ := vP_elim h
                        obtain ⟨x9, e9, h⟩ := vPa_elim h
                        obtain ⟨x60, e60, h⟩ := vI_elim h
                        obtain ⟨x61, e61, h⟩ := vI_elim h
                        refine J.sub ?_ (((((((Sub.base _).upd e1).upd e5).upd e6).upd e9).upd e60).upd e61)
                        clear e1 e5 e6 e9 e60 e61
                        refine J_block ?_
                        refine J_loop (fun k σ w => vS (σ 1) fun x1A x1n x1c => vS (σ 5) fun x5A x5n x5c => vP (σ 6) fun x6 => vPa (σ 9) fun x9 => vI .i64 (σ 60) fun x60 => vI .i64 (σ 61) fun x61 => law10_SpanBack.l1 K k x1A x1n x1c x5A x5n x5c x6 x9 x60 x61 w) (Eq.mp (by kernel_rfl) h) ?_ ?_
                        · intro σ w h
                          obtain ⟨x1A, x1n, x1c, e1, h⟩ := vS_elim h
                          obtain ⟨x5A, x5n, x5c, e5, h⟩ := vS_elim h
                          obtain ⟨x6, e6, h⟩ := vP_elim h
                          obtain ⟨x9, e9, h⟩ := vPa_elim h
                          obtain ⟨x60, e60, h⟩ := vI_elim h
                          obtain ⟨x61, e61, h⟩ := vI_elim h
                          exact h
                        · intro k1 σ w h
                          obtain ⟨x1A, x1n, x1c, e1, h⟩ := vS_elim h
                          obtain ⟨x5A, x5n, x5c, e5, h⟩ := vS_elim h
                          obtain ⟨x6, e6, h⟩ := vP_elim h
                          obtain ⟨x9, e9, h⟩ := vPa_elim h
                          obtain ⟨x60, e60, h⟩ := vI_elim h
                          obtain ⟨x61, e61, h⟩ := vI_elim h
                          refine J.sub ?_ (((((((Sub.base _).upd e1).upd e5).upd e6).upd e9).upd e60).upd e61)
                          clear e1 e5 e6 e9 e60 e61
                          exact sh_sound _ _ _ _ (Eq.mp (by kernel_rfl) h)
                    · intro σ w h
                      obtain ⟨x1A, x1n, x1c, e1, h⟩ := vS_elim h
                      obtain ⟨x5A, x5n, x5c, e5, h⟩ := vS_elim h
                      obtain ⟨x6, e6, h⟩ := vP_elim h
                      refine J.sub ?_ ((((Sub.base _).upd e1).upd e5).upd e6)
                      clear e1 e5 e6
                      refine J_seq (fun σ w => vS (σ 1) fun x1A x1n x1c => vP (σ 6) fun x6 => law10_SpanBack.p15 K x1A x1n x1c x6 w) ?_ ?_
                      ·
                        exact sh_sound _ _ _ _ (Eq.mp (by kernel_rfl) h)
                      · intro σ w h
                        obtain ⟨x1A, x1n, x1c, e1, h⟩ := vS_elim h
                        obtain ⟨x6, e6, h⟩ := vP_elim h
                        refine J.sub ?_ (((Sub.base _).upd e1).upd e6)
                        clear e1 e6
                        refine J_seq (fun σ w => vP (σ 6) fun x6 => law10_SpanBack.p20 K x6 w) ?_ ?_
                        ·
                          refine J_seq (fun σ w => vS (σ 1) fun x1A x1n x1c => vP (σ 6) fun x6 => vI .i64 (σ 11) fun x11 => law10_SpanBack.p16 K x1A x1n x1c x6 x11 w) ?_ ?_
                          ·
                            exact sh_sound _ _ _ _ (Eq.mp (by kernel_rfl) h)
                          · intro σ w h
                            obtain ⟨x1A, x1n, x1c, e1, h⟩ := vS_elim h
                            obtain ⟨x6, e6, h⟩ := vP_elim h
                            obtain ⟨x11, e11, h⟩ := vI_elim h
                            refine J.sub ?_ ((((Sub.base _).upd e1).upd e6).upd e11)
                            clear e1 e6 e11
                            refine J_block ?_
                            refine J_loop (fun k σ w => vS (σ 1) fun x1A x1n x1c => vP (σ 6) fun x6 => vI .i64 (σ 11) fun x11 => law10_SpanBack.l2 K k x1A x1n x1c x6 x11 w) (Eq.mp (by kernel_rfl) h) ?_ ?_
                            · intro σ w h
                              obtain ⟨x1A, x1n, x1c, e1, h⟩ := vS_elim h
                              obtain ⟨x6, e6, h⟩ := vP_elim h
                              obtain ⟨x11, e11, h⟩ := vI_elim h
                              exact h
                            · intro k2 σ w h
                              obtain ⟨x1A, x1n, x1c, e1, h⟩ := vS_elim h
                              obtain ⟨x6, e6, h⟩ := vP_elim h
                              obtain ⟨x11, e11, h⟩ := vI_elim h
                              refine J.sub ?_ ((((Sub.base _).upd e1).upd e6).upd e11)
                              clear e1 e6 e11
                              refine J_seq (fun σ w => vS (σ 1) fun x1A x1n x1c => vP (σ 6) fun x6 => vI .i64 (σ 11) fun x11 => law10_SpanBack.p18 (law10_SpanBack.l2 K k2) K x1A x1n x1c x6 x11 w) ?_ ?_
                              ·
                                refine J_seq (fun σ w => vS (σ 1) fun x1A x1n x1c => vP (σ 6) fun x6 => vI .i64 (σ 11) fun x11 => vB (σ 82) fun x82 => law10_SpanBack.p17 (law10_SpanBack.l2 K k2) K x1A x1n x1c x6 x11 x82 w) ?_ ?_
                                ·
                                  exact sh_sound _ _ _ _ (Eq.mp (by kernel_rfl) h)
                                · intro σ w h
                                  obtain ⟨x1A, x1n, x1c, e1, h⟩ := vS_elim h
                                  obtain ⟨x6, e6, h⟩ := vP_elim h
                                  obtain ⟨x11, e11, h⟩ := vI_elim h
                                  obtain ⟨x82, e82, h⟩ := vB_elim h
                                  refine J.sub ?_ (((((Sub.base _).upd e1).upd e6).upd e11).upd e82)
                                  clear e1 e6 e11 e82
                                  exact sh_sound _ _ _ _ (Eq.mp (by kernel_rfl) h)
                              · intro σ w h
                                obtain ⟨x1A, x1n, x1c, e1, h⟩ := vS_elim h
                                obtain ⟨x6, e6, h⟩ := vP_elim h
                                obtain ⟨x11, e11, h⟩ := vI_elim h
                                refine J.sub ?_ ((((Sub.base _).upd e1).upd e6).upd e11)
                                clear e1 e6 e11
                                refine J_seq (fun σ w => vS (σ 1) fun x1A x1n x1c => vP (σ 6) fun x6 => vI .i64 (σ 11) fun x11 => law10_SpanBack.p19 (law10_SpanBack.l2 K k2) K x1A x1n x1c x6 x11 w) ?_ ?_
                                ·
                                  exact sh_sound _ _ _ _ (Eq.mp (by kernel_rfl) h)
                                · intro σ w h
                                  obtain ⟨x1A, x1n, x1c, e1, h⟩ := vS_elim h
                                  obtain ⟨x6, e6, h⟩ := vP_elim h
                                  obtain ⟨x11, e11, h⟩ := vI_elim h
                                  refine J.sub ?_ ((((Sub.base _).upd e1).upd e6).upd e11)
                                  clear e1 e6 e11
                                  exact sh_sound _ _ _ _ (Eq.mp (by kernel_rfl) h)
                        · intro σ w h
                          obtain ⟨x6, e6, h⟩ := vP_elim h
                          refine J.sub ?_ ((Sub.base _).upd e6)
                          clear e6
                          refine J_seq (fun σ w => vP (σ 6) fun x6 => vP (σ 12) fun x12 => vI .i64 (σ 13) fun x13 => law10_SpanBack.p21 K x6 x12 x13 w) ?_ ?_
                          ·
                            exact sh_sound _ _ _ _ (Eq.mp (by kernel_rfl) h)
                          · intro σ w h
                            obtain ⟨x6, e6, h⟩ := vP_elim h
                            obtain ⟨x12, e12, h⟩ := vP_elim h
                            obtain ⟨x13, e13, h⟩ := vI_elim h
                            refine J.sub ?_ ((((Sub.base _).upd e6).upd e12).upd e13)
                            clear e6 e12 e13
                            refine J_seq (fun σ w => vB (σ 4) fun x4 => law10_SpanBack.p22 K x4 w) ?_ ?_
                            ·
                              exact sh_sound _ _ _ _ (Eq.mp (by kernel_rfl) h)
                            · intro σ w h
                              obtain ⟨x4, e4, h⟩ := vB_elim h
                              refine J.sub ?_ ((Sub.base _).upd e4)
                              clear e4
                              exact sh_sound _ _ _ _ (Eq.mp (by kernel_rfl) h)

/-! ### hayloft/hayloftlaw10.SpanFills: function 5 -/
abbrev law10_SpanFills.p8 (L0 : Option Addr → Int → World → Prop) (K : Value → World → Prop) (x7 : Option Addr) (x9 : Int) (w : World) : Prop :=
  L0 x7 (IntKind.wrap .i64 (x9 + (1 : Int))) w
abbrev law10_SpanFills.p7 (L0 : Option Addr → Int → World → Prop) (K : Value → World → Prop) (x7 : Option Addr) (x9 : Int) (x55 : Bool) (w : World) : Prop :=
  condP x55 (K (.bool false) w) (law10_SpanFills.p8 L0 K x7 x9 w)
abbrev law10_SpanFills.p6 (L0 : Option Addr → Int → World → Prop) (K : Value → World → Prop) (x7 : Option Addr) (x9 : Int) (x10 : Int) (x11 : Bool) (w : World) : Prop :=
  condP (!x11) (law10_SpanFills.p7 L0 K x7 x9 true w) (condP (x10 != x9) (law10_SpanFills.p7 L0 K x7 x9 true w) (CallsE Tryd.prog 22 #[.pointer x7] w (fun v15 w16 => ∃ (n17 : Int), v15 = .int .i64 n17 ∧ condP (n17 != (IntKind.wrap .i64 (x9 + (1 : Int)))) (law10_SpanFills.p7 L0 K x7 x9 true w16) (CallsE Tryd.prog 23 #[.pointer x7, .int .i64 x9] w16 (fun v18 w19 => ∃ (b20 : Bool), v18 = .bool b20 ∧ law10_SpanFills.p7 L0 K x7 x9 (!b20) w19)))))
abbrev law10_SpanFills.p5 (L0 : Option Addr → Int → World → Prop) (K : Value → World → Prop) (x7 : Option Addr) (x9 : Int) (w : World) : Prop :=
  CallsE Tryd.prog 20 #[.pointer x7] w (fun v11 w12 => ∃ (n13 : Int) (b14 : Bool), v11 = .tuple #[.int .i64 n13, .bool b14] ∧ law10_SpanFills.p6 L0 K x7 x9 n13 b14 w12)
abbrev law10_SpanFills.p14 (K : Value → World → Prop) (x6 : Bool) (w : World) : Prop :=
  K (.bool x6) w
abbrev law10_SpanFills.p13 (K : Value → World → Prop) (x7 : Option Addr) (x12 : Int) (x13 : Bool) (w : World) : Prop :=
  condP x13 (CallsE Tryd.prog 11 #[.pointer x7] w (fun v29 w30 => ∃ (n31 : Int), v29 = .int .i64 n31 ∧ law10_SpanFills.p14 K (x12 == (IntKind.wrap .i64 (n31 - (1 : Int)))) w30)) (law10_SpanFills.p14 K false w)
abbrev law10_SpanFills.p12 (K : Value → World → Prop) (x7 : Option Addr) (w : World) : Prop :=
  CallsE Tryd.prog 20 #[.pointer x7] w (fun v25 w26 => ∃ (n27 : Int) (b28 : Bool), v25 = .tuple #[.int .i64 n27, .bool b28] ∧ law10_SpanFills.p13 K x7 n27 b28 w26)
abbrev law10_SpanFills.p11 (K : Value → World → Prop) (x7 : Option Addr) (x80 : Bool) (w : World) : Prop :=
  condP x80 (K (.bool false) w) (law10_SpanFills.p12 K x7 w)
abbrev law10_SpanFills.p10 (K : Value → World → Prop) (x7 : Option Addr) (x12 : Int) (x13 : Bool) (w : World) : Prop :=
  condP x13 (law10_SpanFills.p11 K x7 true w) (condP (x12 != (0 : Int)) (law10_SpanFills.p11 K x7 true w) (CallsE Tryd.prog 11 #[.pointer x7] w (fun v32 w33 => ∃ (n34 : Int), v32 = .int .i64 n34 ∧ CallsE Tryd.prog 21 #[.pointer x7, .int .i64 (IntKind.wrap .i64 (n34 - (1 : Int)))] w33 (fun v35 w36 => ∃ (b37 : Bool), v35 = .bool b37 ∧ condP (!b37) (law10_SpanFills.p11 K x7 true w36) (CallsE Tryd.prog 11 #[.pointer x7] w36 (fun v38 w39 => ∃ (n40 : Int), v38 = .int .i64 n40 ∧ CallsE Tryd.prog 21 #[.pointer x7, .int .i64 (IntKind.wrap .i64 (n40 - (1 : Int)))] w39 (fun v41 w42 => ∃ (b43 : Bool), v41 = .bool b43 ∧ law10_SpanFills.p11 K x7 b43 w42)))))))
abbrev law10_SpanFills.p9 (K : Value → World → Prop) (x7 : Option Addr) (w : World) : Prop :=
  CallsE Tryd.prog 20 #[.pointer x7] w (fun v21 w22 => ∃ (n23 : Int) (b24 : Bool), v21 = .tuple #[.int .i64 n23, .bool b24] ∧ law10_SpanFills.p10 K x7 n23 b24 w22)
abbrev law10_SpanFills.b0 (L0 : Option Addr → Int → World → Prop) (K : Value → World → Prop) (x7 : Option Addr) (x9 : Int) (w : World) : Prop :=
  CallsE Tryd.prog 11 #[.pointer x7] w (fun v8 w9 => ∃ (n10 : Int), v8 = .int .i64 n10 ∧ condP (decide (x9 < n10)) (law10_SpanFills.p5 L0 K x7 x9 w9) (law10_SpanFills.p9 K x7 w9))
def law10_SpanFills.l0 (K : Value → World → Prop) (k : Nat) : Option Addr → Int → World → Prop :=
  Nat.rec (motive := fun _ => Option Addr → Int → World → Prop) (fun _ _ _ => False) (fun _ ih => law10_SpanFills.b0 ih K) k
theorem law10_SpanFills.l0_succ (K : Value → World → Prop) (k : Nat) (x7 : Option Addr) (x9 : Int) (w : World) : law10_SpanFills.l0 K (k + 1) x7 x9 w = law10_SpanFills.b0 (law10_SpanFills.l0 K k) K x7 x9 w := rfl
abbrev law10_SpanFills.p4 (K : Value → World → Prop) (x7 : Option Addr) (x9 : Int) (w : World) : Prop :=
  ∃ k, law10_SpanFills.l0 K k x7 x9 w
abbrev law10_SpanFills.p3 (K : Value → World → Prop) (x7 : Option Addr) (w : World) : Prop :=
  law10_SpanFills.p4 K x7 0 w
abbrev law10_SpanFills.p2 (K : Value → World → Prop) (x7 : Option Addr) (x8 : Int) (w : World) : Prop :=
  condP (x8 != (0 : Int)) (K (.bool true) w) (law10_SpanFills.p3 K x7 w)
abbrev law10_SpanFills.p1 (K : Value → World → Prop) (x0 : Int) (x1 : Int) (x2 : Int) (w : World) : Prop :=
  CallsE Tryd.prog 10 #[.int .i64 x0, .int .i64 x1, .int .i64 x2] w (fun v4 w5 => ∃ (p6 : Option Addr) (n7 : Int), v4 = .tuple #[.pointer p6, .int .i64 n7] ∧ law10_SpanFills.p2 K p6 n7 w5)
abbrev law10_SpanFills.p0 (K : Value → World → Prop) (x0 : Int) (x1 : Int) (x2 : Int) (w : World) : Prop :=
  CallsE Tryd.prog 9 #[] w (fun v1 w2 => ∃ (b3 : Bool), v1 = .bool b3 ∧ condP (!b3) (K (.bool false) w2) (law10_SpanFills.p1 K x0 x1 x2 w2))
abbrev law10_SpanFills.F (q0 : Int) (q1 : Int) (q2 : Int) (K : Value → World → Prop) (w : World) : Prop :=
  law10_SpanFills.p0 K q0 q1 q2 w
theorem law10_SpanFills.ok {q0 : Int} {q1 : Int} {q2 : Int} {K : Value → World → Prop} {w : World} (h : law10_SpanFills.F q0 q1 q2 K w) :
    CallsE Tryd.prog 5 #[.int .i64 q0, .int .i64 q1, .int .i64 q2] w K := by
  refine calls_of_J (n := 94) (rs := [.tmp 6]) Tryd.func5 rfl rfl rfl rfl ?_
  refine J_seq (fun σ w => vI .i64 (σ 0) fun x0 => vI .i64 (σ 1) fun x1 => vI .i64 (σ 2) fun x2 => law10_SpanFills.p0 K x0 x1 x2 w) ?_ ?_
  ·
    exact sh_sound _ _ _ _ (Eq.mp (by kernel_rfl) h)
  · intro σ w h
    obtain ⟨x0, e0, h⟩ := vI_elim h
    obtain ⟨x1, e1, h⟩ := vI_elim h
    obtain ⟨x2, e2, h⟩ := vI_elim h
    refine J.sub ?_ ((((Sub.base _).upd e0).upd e1).upd e2)
    clear e0 e1 e2
    refine J_seq (fun σ w => vI .i64 (σ 0) fun x0 => vI .i64 (σ 1) fun x1 => vI .i64 (σ 2) fun x2 => law10_SpanFills.p1 K x0 x1 x2 w) ?_ ?_
    ·
      exact sh_sound _ _ _ _ (Eq.mp (by kernel_rfl) h)
    · intro σ w h
      obtain ⟨x0, e0, h⟩ := vI_elim h
      obtain ⟨x1, e1, h⟩ := vI_elim h
      obtain ⟨x2, e2, h⟩ := vI_elim h
      refine J.sub ?_ ((((Sub.base _).upd e0).upd e1).upd e2)
      clear e0 e1 e2
      refine J_seq (fun σ w => vP (σ 7) fun x7 => vI .i64 (σ 8) fun x8 => law10_SpanFills.p2 K x7 x8 w) ?_ ?_
      ·
        exact sh_sound _ _ _ _ (Eq.mp (by kernel_rfl) h)
      · intro σ w h
        obtain ⟨x7, e7, h⟩ := vP_elim h
        obtain ⟨x8, e8, h⟩ := vI_elim h
        refine J.sub ?_ (((Sub.base _).upd e7).upd e8)
        clear e7 e8
        refine J_seq (fun σ w => vP (σ 7) fun x7 => law10_SpanFills.p3 K x7 w) ?_ ?_
        ·
          exact sh_sound _ _ _ _ (Eq.mp (by kernel_rfl) h)
        · intro σ w h
          obtain ⟨x7, e7, h⟩ := vP_elim h
          refine J.sub ?_ ((Sub.base _).upd e7)
          clear e7
          refine J_seq (fun σ w => vP (σ 7) fun x7 => law10_SpanFills.p9 K x7 w) ?_ ?_
          ·
            refine J_seq (fun σ w => vP (σ 7) fun x7 => vI .i64 (σ 9) fun x9 => law10_SpanFills.p4 K x7 x9 w) ?_ ?_
            ·
              exact sh_sound _ _ _ _ (Eq.mp (by kernel_rfl) h)
            · intro σ w h
              obtain ⟨x7, e7, h⟩ := vP_elim h
              obtain ⟨x9, e9, h⟩ := vI_elim h
              refine J.sub ?_ (((Sub.base _).upd e7).upd e9)
              clear e7 e9
              refine J_block ?_
              refine J_loop (fun k σ w => vP (σ 7) fun x7 => vI .i64 (σ 9) fun x9 => law10_SpanFills.l0 K k x7 x9 w) (Eq.mp (by kernel_rfl) h) ?_ ?_
              · intro σ w h
                obtain ⟨x7, e7, h⟩ := vP_elim h
                obtain ⟨x9, e9, h⟩ := vI_elim h
                exact h
              · intro k0 σ w h
                obtain ⟨x7, e7, h⟩ := vP_elim h
                obtain ⟨x9, e9, h⟩ := vI_elim h
                refine J.sub ?_ (((Sub.base _).upd e7).upd e9)
                clear e7 e9
                refine J_seq (fun σ w => vP (σ 7) fun x7 => vI .i64 (σ 9) fun x9 => law10_SpanFills.p5 (law10_SpanFills.l0 K k0) K x7 x9 w) ?_ ?_
                ·
                  exact sh_sound _ _ _ _ (Eq.mp (by kernel_rfl) h)
                · intro σ w h
                  obtain ⟨x7, e7, h⟩ := vP_elim h
                  obtain ⟨x9, e9, h⟩ := vI_elim h
                  refine J.sub ?_ (((Sub.base _).upd e7).upd e9)
                  clear e7 e9
                  refine J_seq (fun σ w => vP (σ 7) fun x7 => vI .i64 (σ 9) fun x9 => law10_SpanFills.p8 (law10_SpanFills.l0 K k0) K x7 x9 w) ?_ ?_
                  ·
                    refine J_block ?_
                    refine J_seq (fun σ w => vP (σ 7) fun x7 => vI .i64 (σ 9) fun x9 => vI .i64 (σ 10) fun x10 => vB (σ 11) fun x11 => law10_SpanFills.p6 (law10_SpanFills.l0 K k0) K x7 x9 x10 x11 w) ?_ ?_
                    ·
                      exact sh_sound _ _ _ _ (Eq.mp (by kernel_rfl) h)
                    · intro σ w h
                      obtain ⟨x7, e7, h⟩ := vP_elim h
                      obtain ⟨x9, e9, h⟩ := vI_elim h
                      obtain ⟨x10, e10, h⟩ := vI_elim h
                      obtain ⟨x11, e11, h⟩ := vB_elim h
                      refine J.sub ?_ (((((Sub.base _).upd e7).upd e9).upd e10).upd e11)
                      clear e7 e9 e10 e11
                      refine J_seq (fun σ w => vP (σ 7) fun x7 => vI .i64 (σ 9) fun x9 => vB (σ 55) fun x55 => law10_SpanFills.p7 (law10_SpanFills.l0 K k0) K x7 x9 x55 w) ?_ ?_
                      ·
                        exact sh_sound _ _ _ _ (Eq.mp (by kernel_rfl) h)
                      · intro σ w h
                        obtain ⟨x7, e7, h⟩ := vP_elim h
                        obtain ⟨x9, e9, h⟩ := vI_elim h
                        obtain ⟨x55, e55, h⟩ := vB_elim h
                        refine J.sub ?_ ((((Sub.base _).upd e7).upd e9).upd e55)
                        clear e7 e9 e55
                        exact sh_sound _ _ _ _ (Eq.mp (by kernel_rfl) h)
                  · intro σ w h
                    obtain ⟨x7, e7, h⟩ := vP_elim h
                    obtain ⟨x9, e9, h⟩ := vI_elim h
                    refine J.sub ?_ (((Sub.base _).upd e7).upd e9)
                    clear e7 e9
                    exact sh_sound _ _ _ _ (Eq.mp (by kernel_rfl) h)
          · intro σ w h
            obtain ⟨x7, e7, h⟩ := vP_elim h
            refine J.sub ?_ ((Sub.base _).upd e7)
            clear e7
            refine J_seq (fun σ w => vP (σ 7) fun x7 => vI .i64 (σ 12) fun x12 => vB (σ 13) fun x13 => law10_SpanFills.p10 K x7 x12 x13 w) ?_ ?_
            ·
              exact sh_sound _ _ _ _ (Eq.mp (by kernel_rfl) h)
            · intro σ w h
              obtain ⟨x7, e7, h⟩ := vP_elim h
              obtain ⟨x12, e12, h⟩ := vI_elim h
              obtain ⟨x13, e13, h⟩ := vB_elim h
              refine J.sub ?_ ((((Sub.base _).upd e7).upd e12).upd e13)
              clear e7 e12 e13
              refine J_seq (fun σ w => vP (σ 7) fun x7 => law10_SpanFills.p12 K x7 w) ?_ ?_
              ·
                refine J_seq (fun σ w => vP (σ 7) fun x7 => vB (σ 80) fun x80 => law10_SpanFills.p11 K x7 x80 w) ?_ ?_
                ·
                  exact sh_sound _ _ _ _ (Eq.mp (by kernel_rfl) h)
                · intro σ w h
                  obtain ⟨x7, e7, h⟩ := vP_elim h
                  obtain ⟨x80, e80, h⟩ := vB_elim h
                  refine J.sub ?_ (((Sub.base _).upd e7).upd e80)
                  clear e7 e80
                  exact sh_sound _ _ _ _ (Eq.mp (by kernel_rfl) h)
              · intro σ w h
                obtain ⟨x7, e7, h⟩ := vP_elim h
                refine J.sub ?_ ((Sub.base _).upd e7)
                clear e7
                refine J_seq (fun σ w => vP (σ 7) fun x7 => vI .i64 (σ 12) fun x12 => vB (σ 13) fun x13 => law10_SpanFills.p13 K x7 x12 x13 w) ?_ ?_
                ·
                  exact sh_sound _ _ _ _ (Eq.mp (by kernel_rfl) h)
                · intro σ w h
                  obtain ⟨x7, e7, h⟩ := vP_elim h
                  obtain ⟨x12, e12, h⟩ := vI_elim h
                  obtain ⟨x13, e13, h⟩ := vB_elim h
                  refine J.sub ?_ ((((Sub.base _).upd e7).upd e12).upd e13)
                  clear e7 e12 e13
                  refine J_seq (fun σ w => vB (σ 6) fun x6 => law10_SpanFills.p14 K x6 w) ?_ ?_
                  ·
                    exact sh_sound _ _ _ _ (Eq.mp (by kernel_rfl) h)
                  · intro σ w h
                    obtain ⟨x6, e6, h⟩ := vB_elim h
                    refine J.sub ?_ ((Sub.base _).upd e6)
                    clear e6
                    exact sh_sound _ _ _ _ (Eq.mp (by kernel_rfl) h)

/-! ### hayloft/hayloftlaw10.SpanMakes: function 6 -/
abbrev law10_SpanMakes.p6 (K : Value → World → Prop) (x6 : Bool) (w : World) : Prop :=
  K (.bool x6) w
abbrev law10_SpanMakes.p5 (K : Value → World → Prop) (x7 : Option Addr) (x9 : Option Addr) (w : World) : Prop :=
  CallsE Tryd.prog 19 #[.pointer x7] w (fun v12 w13 => ∃ (n14 : Int) (n15 : Int) (n16 : Int) (A17 : Option Addr) (m18 : Nat) (c19 : Nat), v12 = .agg #[.int .i64 n14, .int .i64 n15, .int .i64 n16, .slice A17 m18 c19] ∧ CallsE Tryd.prog 25 #[.pointer x9] w13 (fun v20 w21 => ∃ (n22 : Int) (n23 : Int) (n24 : Int) (A25 : Option Addr) (m26 : Nat) (c27 : Nat), v20 = .agg #[.int .i64 n22, .int .i64 n23, .int .i64 n24, .slice A25 m26 c27] ∧ CallsE Tryd.prog 18 #[.agg #[.int .i64 n14, .int .i64 n15, .int .i64 n16, .slice A17 m18 c19], .agg #[.int .i64 n22, .int .i64 n23, .int .i64 n24, .slice A25 m26 c27]] w21 (fun v28 w29 => ∃ (b30 : Bool), v28 = .bool b30 ∧ condP b30 (CallsE Tryd.prog 22 #[.pointer x7] w29 (fun v31 w32 => ∃ (n33 : Int), v31 = .int .i64 n33 ∧ law10_SpanMakes.p6 K (n33 == (0 : Int)) w32)) (law10_SpanMakes.p6 K false w29))))
abbrev law10_SpanMakes.p4 (K : Value → World → Prop) (x7 : Option Addr) (x9 : Option Addr) (x10 : Int) (w : World) : Prop :=
  condP (x10 != (0 : Int)) (K (.bool x7.isNone) w) (law10_SpanMakes.p5 K x7 x9 w)
abbrev law10_SpanMakes.p3 (K : Value → World → Prop) (x7 : Option Addr) (x8 : Int) (x9 : Option Addr) (x10 : Int) (w : World) : Prop :=
  condP (x8 != x10) (K (.bool false) w) (law10_SpanMakes.p4 K x7 x9 x10 w)
abbrev law10_SpanMakes.p2 (K : Value → World → Prop) (x0 : Int) (x1 : Int) (x2 : Int) (x7 : Option Addr) (x8 : Int) (w : World) : Prop :=
  CallsE Tryd.prog 24 #[.int .i64 x0, .int .i64 x1, .int .i64 x2] w (fun v8 w9 => ∃ (p10 : Option Addr) (n11 : Int), v8 = .tuple #[.pointer p10, .int .i64 n11] ∧ law10_SpanMakes.p3 K x7 x8 p10 n11 w9)
abbrev law10_SpanMakes.p1 (K : Value → World → Prop) (x0 : Int) (x1 : Int) (x2 : Int) (w : World) : Prop :=
  CallsE Tryd.prog 10 #[.int .i64 x0, .int .i64 x1, .int .i64 x2] w (fun v4 w5 => ∃ (p6 : Option Addr) (n7 : Int), v4 = .tuple #[.pointer p6, .int .i64 n7] ∧ law10_SpanMakes.p2 K x0 x1 x2 p6 n7 w5)
abbrev law10_SpanMakes.p0 (K : Value → World → Prop) (x0 : Int) (x1 : Int) (x2 : Int) (w : World) : Prop :=
  CallsE Tryd.prog 9 #[] w (fun v1 w2 => ∃ (b3 : Bool), v1 = .bool b3 ∧ condP (!b3) (K (.bool false) w2) (law10_SpanMakes.p1 K x0 x1 x2 w2))
abbrev law10_SpanMakes.F (q0 : Int) (q1 : Int) (q2 : Int) (K : Value → World → Prop) (w : World) : Prop :=
  law10_SpanMakes.p0 K q0 q1 q2 w
theorem law10_SpanMakes.ok {q0 : Int} {q1 : Int} {q2 : Int} {K : Value → World → Prop} {w : World} (h : law10_SpanMakes.F q0 q1 q2 K w) :
    CallsE Tryd.prog 6 #[.int .i64 q0, .int .i64 q1, .int .i64 q2] w K := by
  refine calls_of_J (n := 44) (rs := [.tmp 6]) Tryd.func6 rfl rfl rfl rfl ?_
  refine J_seq (fun σ w => vI .i64 (σ 0) fun x0 => vI .i64 (σ 1) fun x1 => vI .i64 (σ 2) fun x2 => law10_SpanMakes.p0 K x0 x1 x2 w) ?_ ?_
  ·
    exact sh_sound _ _ _ _ (Eq.mp (by kernel_rfl) h)
  · intro σ w h
    obtain ⟨x0, e0, h⟩ := vI_elim h
    obtain ⟨x1, e1, h⟩ := vI_elim h
    obtain ⟨x2, e2, h⟩ := vI_elim h
    refine J.sub ?_ ((((Sub.base _).upd e0).upd e1).upd e2)
    clear e0 e1 e2
    refine J_seq (fun σ w => vI .i64 (σ 0) fun x0 => vI .i64 (σ 1) fun x1 => vI .i64 (σ 2) fun x2 => law10_SpanMakes.p1 K x0 x1 x2 w) ?_ ?_
    ·
      exact sh_sound _ _ _ _ (Eq.mp (by kernel_rfl) h)
    · intro σ w h
      obtain ⟨x0, e0, h⟩ := vI_elim h
      obtain ⟨x1, e1, h⟩ := vI_elim h
      obtain ⟨x2, e2, h⟩ := vI_elim h
      refine J.sub ?_ ((((Sub.base _).upd e0).upd e1).upd e2)
      clear e0 e1 e2
      refine J_seq (fun σ w => vI .i64 (σ 0) fun x0 => vI .i64 (σ 1) fun x1 => vI .i64 (σ 2) fun x2 => vP (σ 7) fun x7 => vI .i64 (σ 8) fun x8 => law10_SpanMakes.p2 K x0 x1 x2 x7 x8 w) ?_ ?_
      ·
        exact sh_sound _ _ _ _ (Eq.mp (by kernel_rfl) h)
      · intro σ w h
        obtain ⟨x0, e0, h⟩ := vI_elim h
        obtain ⟨x1, e1, h⟩ := vI_elim h
        obtain ⟨x2, e2, h⟩ := vI_elim h
        obtain ⟨x7, e7, h⟩ := vP_elim h
        obtain ⟨x8, e8, h⟩ := vI_elim h
        refine J.sub ?_ ((((((Sub.base _).upd e0).upd e1).upd e2).upd e7).upd e8)
        clear e0 e1 e2 e7 e8
        refine J_seq (fun σ w => vP (σ 7) fun x7 => vI .i64 (σ 8) fun x8 => vP (σ 9) fun x9 => vI .i64 (σ 10) fun x10 => law10_SpanMakes.p3 K x7 x8 x9 x10 w) ?_ ?_
        ·
          exact sh_sound _ _ _ _ (Eq.mp (by kernel_rfl) h)
        · intro σ w h
          obtain ⟨x7, e7, h⟩ := vP_elim h
          obtain ⟨x8, e8, h⟩ := vI_elim h
          obtain ⟨x9, e9, h⟩ := vP_elim h
          obtain ⟨x10, e10, h⟩ := vI_elim h
          refine J.sub ?_ (((((Sub.base _).upd e7).upd e8).upd e9).upd e10)
          clear e7 e8 e9 e10
          refine J_seq (fun σ w => vP (σ 7) fun x7 => vP (σ 9) fun x9 => vI .i64 (σ 10) fun x10 => law10_SpanMakes.p4 K x7 x9 x10 w) ?_ ?_
          ·
            exact sh_sound _ _ _ _ (Eq.mp (by kernel_rfl) h)
          · intro σ w h
            obtain ⟨x7, e7, h⟩ := vP_elim h
            obtain ⟨x9, e9, h⟩ := vP_elim h
            obtain ⟨x10, e10, h⟩ := vI_elim h
            refine J.sub ?_ ((((Sub.base _).upd e7).upd e9).upd e10)
            clear e7 e9 e10
            refine J_seq (fun σ w => vP (σ 7) fun x7 => vP (σ 9) fun x9 => law10_SpanMakes.p5 K x7 x9 w) ?_ ?_
            ·
              exact sh_sound _ _ _ _ (Eq.mp (by kernel_rfl) h)
            · intro σ w h
              obtain ⟨x7, e7, h⟩ := vP_elim h
              obtain ⟨x9, e9, h⟩ := vP_elim h
              refine J.sub ?_ (((Sub.base _).upd e7).upd e9)
              clear e7 e9
              refine J_seq (fun σ w => vB (σ 6) fun x6 => law10_SpanMakes.p6 K x6 w) ?_ ?_
              ·
                exact sh_sound _ _ _ _ (Eq.mp (by kernel_rfl) h)
              · intro σ w h
                obtain ⟨x6, e6, h⟩ := vB_elim h
                refine J.sub ?_ ((Sub.base _).upd e6)
                clear e6
                exact sh_sound _ _ _ _ (Eq.mp (by kernel_rfl) h)

/-! ### hayloft/hayloftlaw10.SpanNil: function 7 -/
abbrev law10_SpanNil.p5 (K : Value → World → Prop) (x2 : Bool) (w : World) : Prop :=
  K (.bool x2) w
abbrev law10_SpanNil.p4 (K : Value → World → Prop) (x0 : Int) (x3 : Option Addr) (x4 : Int) (x5 : Bool) (x6 : Int) (x7 : Bool) (x8 : Int) (x9 : Bool) (w : World) : Prop :=
  CallsE Tryd.prog 9 #[] w (fun v13 w14 => ∃ (b15 : Bool), v13 = .bool b15 ∧ condP b15 (CallsE Tryd.prog 26 #[.pointer x3] w14 (fun v16 w17 => ∃ (n18 : Int), v16 = .int .i64 n18 ∧ CallsE Tryd.prog 15 #[.pointer x3] w17 (fun v19 w20 => ∃ (n21 : Int), v19 = .int .i64 n21 ∧ CallsE Tryd.prog 27 #[.pointer x3] w20 (fun v22 w23 => ∃ (n24 : Int), v22 = .int .i64 n24 ∧ CallsE Tryd.prog 14 #[.pointer x3] w23 (fun v25 w26 => ∃ (n27 : Int), v25 = .int .i64 n27 ∧ CallsE Tryd.prog 11 #[.pointer x3] w26 (fun v28 w29 => ∃ (n30 : Int), v28 = .int .i64 n30 ∧ CallsE Tryd.prog 22 #[.pointer x3] w29 (fun v31 w32 => ∃ (n33 : Int), v31 = .int .i64 n33 ∧ condP ((IntKind.wrap .i64 ((IntKind.wrap .i64 ((IntKind.wrap .i64 ((IntKind.wrap .i64 ((IntKind.wrap .i64 ((IntKind.wrap .i64 ((IntKind.wrap .i64 ((IntKind.wrap .i64 (x4 + x6)) + x8)) + n18)) + n21)) + n24)) + n27)) + n30)) + n33)) == (0 : Int)) (condP (!x5) (condP (!x7) (condP (!x9) (CallsE Tryd.prog 23 #[.pointer x3, .int .i64 x0] w32 (fun v34 w35 => ∃ (b36 : Bool), v34 = .bool b36 ∧ condP (!b36) (CallsE Tryd.prog 21 #[.pointer x3, .int .i64 x0] w35 (fun v37 w38 => ∃ (b39 : Bool), v37 = .bool b39 ∧ condP (!b39) (CallsE Tryd.prog 19 #[.pointer x3] w38 (fun v40 w41 => ∃ (n42 : Int) (n43 : Int) (n44 : Int) (A45 : Option Addr) (m46 : Nat) (c47 : Nat), v40 = .agg #[.int .i64 n42, .int .i64 n43, .int .i64 n44, .slice A45 m46 c47] ∧ CallsE Tryd.prog 18 #[.agg #[.int .i64 n42, .int .i64 n43, .int .i64 n44, .slice A45 m46 c47], .agg #[.int .i64 0, .int .i64 0, .int .i64 0, .slice none 0 0]] w41 (fun v48 w49 => ∃ (b50 : Bool), v48 = .bool b50 ∧ law10_SpanNil.p5 K b50 w49))) (law10_SpanNil.p5 K false w38))) (law10_SpanNil.p5 K false w35))) (law10_SpanNil.p5 K false w32)) (law10_SpanNil.p5 K false w32)) (law10_SpanNil.p5 K false w32)) (law10_SpanNil.p5 K false w32)))))))) (law10_SpanNil.p5 K false w14))
abbrev law10_SpanNil.p3 (K : Value → World → Prop) (x0 : Int) (x3 : Option Addr) (x4 : Int) (x5 : Bool) (x6 : Int) (x7 : Bool) (w : World) : Prop :=
  CallsE Tryd.prog 13 #[.pointer x3, .int .i64 x0] w (fun v9 w10 => ∃ (n11 : Int) (b12 : Bool), v9 = .tuple #[.int .i64 n11, .bool b12] ∧ law10_SpanNil.p4 K x0 x3 x4 x5 x6 x7 n11 b12 w10)
abbrev law10_SpanNil.p2 (K : Value → World → Prop) (x0 : Int) (x3 : Option Addr) (x4 : Int) (x5 : Bool) (w : World) : Prop :=
  CallsE Tryd.prog 12 #[.pointer x3, .int .i64 x0] w (fun v5 w6 => ∃ (n7 : Int) (b8 : Bool), v5 = .tuple #[.int .i64 n7, .bool b8] ∧ law10_SpanNil.p3 K x0 x3 x4 x5 n7 b8 w6)
abbrev law10_SpanNil.p1 (K : Value → World → Prop) (x0 : Int) (x3 : Option Addr) (w : World) : Prop :=
  CallsE Tryd.prog 20 #[.pointer x3] w (fun v1 w2 => ∃ (n3 : Int) (b4 : Bool), v1 = .tuple #[.int .i64 n3, .bool b4] ∧ law10_SpanNil.p2 K x0 x3 n3 b4 w2)
abbrev law10_SpanNil.p0 (K : Value → World → Prop) (x0 : Int) (w : World) : Prop :=
  law10_SpanNil.p1 K x0 none w
abbrev law10_SpanNil.F (q0 : Int) (K : Value → World → Prop) (w : World) : Prop :=
  law10_SpanNil.p0 K q0 w
theorem law10_SpanNil.ok {q0 : Int} {K : Value → World → Prop} {w : World} (h : law10_SpanNil.F q0 K w) :
    CallsE Tryd.prog 7 #[.int .i64 q0] w K := by
  refine calls_of_J (n := 84) (rs := [.tmp 2]) Tryd.func7 rfl rfl rfl rfl ?_
  refine J_seq (fun σ w => vI .i64 (σ 0) fun x0 => law10_SpanNil.p0 K x0 w) ?_ ?_
  ·
    exact sh_sound _ _ _ _ (Eq.mp (by kernel_rfl) h)
  · intro σ w h
    obtain ⟨x0, e0, h⟩ := vI_elim h
    refine J.sub ?_ ((Sub.base _).upd e0)
    clear e0
    refine J_seq (fun σ w => vI .i64 (σ 0) fun x0 => vP (σ 3) fun x3 => law10_SpanNil.p1 K x0 x3 w) ?_ ?_
    ·
      exact sh_sound _ _ _ _ (Eq.mp (by kernel_rfl) h)
    · intro σ w h
      obtain ⟨x0, e0, h⟩ := vI_elim h
      obtain ⟨x3, e3, h⟩ := vP_elim h
      refine J.sub ?_ (((Sub.base _).upd e0).upd e3)
      clear e0 e3
      refine J_seq (fun σ w => vI .i64 (σ 0) fun x0 => vP (σ 3) fun x3 => vI .i64 (σ 4) fun x4 => vB (σ 5) fun x5 => law10_SpanNil.p2 K x0 x3 x4 x5 w) ?_ ?_
      ·
        exact sh_sound _ _ _ _ (Eq.mp (by kernel_rfl) h)
      · intro σ w h
        obtain ⟨x0, e0, h⟩ := vI_elim h
        obtain ⟨x3, e3, h⟩ := vP_elim h
        obtain ⟨x4, e4, h⟩ := vI_elim h
        obtain ⟨x5, e5, h⟩ := vB_elim h
        refine J.sub ?_ (((((Sub.base _).upd e0).upd e3).upd e4).upd e5)
        clear e0 e3 e4 e5
        refine J_seq (fun σ w => vI .i64 (σ 0) fun x0 => vP (σ 3) fun x3 => vI .i64 (σ 4) fun x4 => vB (σ 5) fun x5 => vI .i64 (σ 6) fun x6 => vB (σ 7) fun x7 => law10_SpanNil.p3 K x0 x3 x4 x5 x6 x7 w) ?_ ?_
        ·
          exact sh_sound _ _ _ _ (Eq.mp (by kernel_rfl) h)
        · intro σ w h
          obtain ⟨x0, e0, h⟩ := vI_elim h
          obtain ⟨x3, e3, h⟩ := vP_elim h
          obtain ⟨x4, e4, h⟩ := vI_elim h
          obtain ⟨x5, e5, h⟩ := vB_elim h
          obtain ⟨x6, e6, h⟩ := vI_elim h
          obtain ⟨x7, e7, h⟩ := vB_elim h
          refine J.sub ?_ (((((((Sub.base _).upd e0).upd e3).upd e4).upd e5).upd e6).upd e7)
          clear e0 e3 e4 e5 e6 e7
          refine J_seq (fun σ w => vI .i64 (σ 0) fun x0 => vP (σ 3) fun x3 => vI .i64 (σ 4) fun x4 => vB (σ 5) fun x5 => vI .i64 (σ 6) fun x6 => vB (σ 7) fun x7 => vI .i64 (σ 8) fun x8 => vB (σ 9) fun x9 => law10_SpanNil.p4 K x0 x3 x4 x5 x6 x7 x8 x9 w) ?_ ?_
          ·
            exact sh_sound _ _ _ _ (Eq.mp (by kernel_rfl) h)
          · intro σ w h
            obtain ⟨x0, e0, h⟩ := vI_elim h
            obtain ⟨x3, e3, h⟩ := vP_elim h
            obtain ⟨x4, e4, h⟩ := vI_elim h
            obtain ⟨x5, e5, h⟩ := vB_elim h
            obtain ⟨x6, e6, h⟩ := vI_elim h
            obtain ⟨x7, e7, h⟩ := vB_elim h
            obtain ⟨x8, e8, h⟩ := vI_elim h
            obtain ⟨x9, e9, h⟩ := vB_elim h
            refine J.sub ?_ (((((((((Sub.base _).upd e0).upd e3).upd e4).upd e5).upd e6).upd e7).upd e8).upd e9)
            clear e0 e3 e4 e5 e6 e7 e8 e9
            refine J_seq (fun σ w => vB (σ 2) fun x2 => law10_SpanNil.p5 K x2 w) ?_ ?_
            ·
              exact sh_sound _ _ _ _ (Eq.mp (by kernel_rfl) h)
            · intro σ w h
              obtain ⟨x2, e2, h⟩ := vB_elim h
              refine J.sub ?_ ((Sub.base _).upd e2)
              clear e2
              exact sh_sound _ _ _ _ (Eq.mp (by kernel_rfl) h)

/-! ### hayloft/hayloftlaw10.SpanPlays: function 8 -/
abbrev law10_SpanPlays.p10 (L0 : Option Addr → Nat → Nat → Option Addr → Option Addr → Int → World → Prop) (K : Value → World → Prop) (x1A : Option Addr) (x1n : Nat) (x1c : Nat) (x5 : Option Addr) (x7 : Option Addr) (x9 : Int) (w : World) : Prop :=
  L0 x1A x1n x1c x5 x7 (IntKind.wrap .i64 (x9 + (1 : Int))) w
abbrev law10_SpanPlays.p9 (L0 : Option Addr → Nat → Nat → Option Addr → Option Addr → Int → World → Prop) (K : Value → World → Prop) (x1A : Option Addr) (x1n : Nat) (x1c : Nat) (x5 : Option Addr) (x7 : Option Addr) (x9 : Int) (x54 : Bool) (w : World) : Prop :=
  condP x54 (K (.bool false) w) (law10_SpanPlays.p10 L0 K x1A x1n x1c x5 x7 x9 w)
abbrev law10_SpanPlays.p8 (L0 : Option Addr → Nat → Nat → Option Addr → Option Addr → Int → World → Prop) (K : Value → World → Prop) (x1A : Option Addr) (x1n : Nat) (x1c : Nat) (x5 : Option Addr) (x7 : Option Addr) (x9 : Int) (w : World) : Prop :=
  (0 ≤ x9 ∧ x9 < ((x1n : Nat) : Int)) ∧ ∃ (a25 : Addr), x1A = some a25 ∧ ∃ (n26 : Int), w.cell? (a25.add (x9.toNat * 2)) = some (.int .i64 n26) ∧ ∃ (n27 : Int), w.cell? ((a25.add (x9.toNat * 2)).add 1) = some (.int .i64 n27) ∧ CallsE Tryd.prog 29 #[.pointer x5, .pointer x7, .agg #[.int .i64 n26, .int .i64 n27]] w (fun v28 w29 => ∃ (b30 : Bool), v28 = .bool b30 ∧ condP (!b30) (law10_SpanPlays.p9 L0 K x1A x1n x1c x5 x7 x9 true w29) (CallsE Tryd.prog 22 #[.pointer x5] w29 (fun v31 w32 => ∃ (n33 : Int), v31 = .int .i64 n33 ∧ CallsE Tryd.prog 30 #[.pointer x7] w32 (fun v34 w35 => ∃ (A36 : Option Addr) (m37 : Nat) (c38 : Nat), v34 = .slice A36 m37 c38 ∧ law10_SpanPlays.p9 L0 K x1A x1n x1c x5 x7 x9 (n33 != ((m37 : Nat) : Int)) w35))))
abbrev law10_SpanPlays.p12 (K : Value → World → Prop) (x4 : Bool) (w : World) : Prop :=
  K (.bool x4) w
abbrev law10_SpanPlays.p11 (K : Value → World → Prop) (x5 : Option Addr) (x7 : Option Addr) (w : World) : Prop :=
  ∃ (S39 : Array Obj → Prop), S39 w.heap ∧ CallsE Tryd.prog 19 #[.pointer x5] w (fun v40 w41 => ∃ (n42 : Int) (n43 : Int) (n44 : Int) (A45 : Option Addr) (m46 : Nat) (c47 : Nat), v40 = .agg #[.int .i64 n42, .int .i64 n43, .int .i64 n44, .slice A45 m46 c47] ∧ S39 w41.heap ∧ CallsE Tryd.prog 25 #[.pointer x7] w41 (fun v48 w49 => ∃ (n50 : Int) (n51 : Int) (n52 : Int) (A53 : Option Addr) (m54 : Nat) (c55 : Nat), v48 = .agg #[.int .i64 n50, .int .i64 n51, .int .i64 n52, .slice A53 m54 c55] ∧ S39 w49.heap ∧ CallsE Tryd.prog 18 #[.agg #[.int .i64 n42, .int .i64 n43, .int .i64 n44, .slice A45 m46 c47], .agg #[.int .i64 n50, .int .i64 n51, .int .i64 n52, .slice A53 m54 c55]] w49 (fun v56 w57 => ∃ (b58 : Bool), v56 = .bool b58 ∧ S39 w57.heap ∧ condP b58 (∃ (a59 : Addr), x7 = some a59 ∧ ∃ (n60 : Int), (∀ w' : World, S39 w'.heap → w'.cell? a59 = some (.int .i64 n60)) ∧ CallsE Tryd.prog 26 #[.pointer x5] w57 (fun v61 w62 => ∃ (n63 : Int), v61 = .int .i64 n63 ∧ S39 w62.heap ∧ condP (n63 == n60) (∃ (a64 : Addr), x7 = some a64 ∧ ∃ (n65 : Int), (∀ w' : World, S39 w'.heap → w'.cell? (a64.add 1) = some (.int .i64 n65)) ∧ CallsE Tryd.prog 27 #[.pointer x5] w62 (fun v66 w67 => ∃ (n68 : Int), v66 = .int .i64 n68 ∧ S39 w67.heap ∧ condP (n68 == n65) (CallsE Tryd.prog 14 #[.pointer x5] w67 (fun v69 w70 => ∃ (n71 : Int), v69 = .int .i64 n71 ∧ S39 w70.heap ∧ CallsE Tryd.prog 31 #[.pointer x7] w70 (fun v72 w73 => ∃ (n74 : Int), v72 = .int .i64 n74 ∧ S39 w73.heap ∧ condP (n71 == n74) (∃ (a75 : Addr), x7 = some a75 ∧ ∃ (A76 : Option Addr) (m77 : Nat) (c78 : Nat), (∀ w' : World, S39 w'.heap → w'.cell? (a75.add 3) = some (.slice A76 m77 c78)) ∧ CallsE Tryd.prog 11 #[.pointer x5] w73 (fun v79 w80 => ∃ (n81 : Int), v79 = .int .i64 n81 ∧ S39 w80.heap ∧ condP (n81 == ((m77 : Nat) : Int)) (∃ (a82 : Addr), x7 = some a82 ∧ ∃ (a83 : Addr), x7 = some a83 ∧ ∃ (n84 : Int), (∀ w' : World, S39 w'.heap → w'.cell? (a82.add 1) = some (.int .i64 n84)) ∧ ∃ (n85 : Int), (∀ w' : World, S39 w'.heap → w'.cell? (a83.add 2) = some (.int .i64 n85)) ∧ CallsE Tryd.prog 15 #[.pointer x5] w80 (fun v86 w87 => ∃ (n88 : Int), v86 = .int .i64 n88 ∧ S39 w87.heap ∧ CallsE Tryd.prog 32 #[.int .i64 n84, .int .i64 n85] w87 (fun v89 w90 => ∃ (n91 : Int), v89 = .int .i64 n91 ∧ S39 w90.heap ∧ law10_SpanPlays.p12 K (n88 == n91) w90))) (law10_SpanPlays.p12 K false w80))) (law10_SpanPlays.p12 K false w73)))) (law10_SpanPlays.p12 K false w67))) (law10_SpanPlays.p12 K false w62))) (law10_SpanPlays.p12 K false w57))))
abbrev law10_SpanPlays.p7 (L0 : Option Addr → Nat → Nat → Option Addr → Option Addr → Int → World → Prop) (K : Value → World → Prop) (x1A : Option Addr) (x1n : Nat) (x1c : Nat) (x5 : Option Addr) (x7 : Option Addr) (x9 : Int) (x36 : Bool) (w : World) : Prop :=
  condP x36 (law10_SpanPlays.p8 L0 K x1A x1n x1c x5 x7 x9 w) (law10_SpanPlays.p11 K x5 x7 w)
abbrev law10_SpanPlays.b0 (L0 : Option Addr → Nat → Nat → Option Addr → Option Addr → Int → World → Prop) (K : Value → World → Prop) (x1A : Option Addr) (x1n : Nat) (x1c : Nat) (x5 : Option Addr) (x7 : Option Addr) (x9 : Int) (w : World) : Prop :=
  condP (decide (x9 < ((x1n : Nat) : Int))) (law10_SpanPlays.p7 L0 K x1A x1n x1c x5 x7 x9 (decide (x9 < (200 : Int))) w) (law10_SpanPlays.p7 L0 K x1A x1n x1c x5 x7 x9 false w)
def law10_SpanPlays.l0 (K : Value → World → Prop) (k : Nat) : Option Addr → Nat → Nat → Option Addr → Option Addr → Int → World → Prop :=
  Nat.rec (motive := fun _ => Option Addr → Nat → Nat → Option Addr → Option Addr → Int → World → Prop) (fun _ _ _ _ _ _ _ => False) (fun _ ih => law10_SpanPlays.b0 ih K) k
theorem law10_SpanPlays.l0_succ (K : Value → World → Prop) (k : Nat) (x1A : Option Addr) (x1n : Nat) (x1c : Nat) (x5 : Option Addr) (x7 : Option Addr) (x9 : Int) (w : World) : law10_SpanPlays.l0 K (k + 1) x1A x1n x1c x5 x7 x9 w = law10_SpanPlays.b0 (law10_SpanPlays.l0 K k) K x1A x1n x1c x5 x7 x9 w := rfl
abbrev law10_SpanPlays.p6 (K : Value → World → Prop) (x1A : Option Addr) (x1n : Nat) (x1c : Nat) (x5 : Option Addr) (x7 : Option Addr) (x9 : Int) (w : World) : Prop :=
  ∃ k, law10_SpanPlays.l0 K k x1A x1n x1c x5 x7 x9 w
abbrev law10_SpanPlays.p5 (K : Value → World → Prop) (x1A : Option Addr) (x1n : Nat) (x1c : Nat) (x5 : Option Addr) (x7 : Option Addr) (w : World) : Prop :=
  law10_SpanPlays.p6 K x1A x1n x1c x5 x7 0 w
abbrev law10_SpanPlays.p4 (K : Value → World → Prop) (x1A : Option Addr) (x1n : Nat) (x1c : Nat) (x5 : Option Addr) (x7 : Option Addr) (x8 : Int) (w : World) : Prop :=
  condP (x8 != (0 : Int)) (K (.bool x5.isNone) w) (law10_SpanPlays.p5 K x1A x1n x1c x5 x7 w)
abbrev law10_SpanPlays.p3 (K : Value → World → Prop) (x1A : Option Addr) (x1n : Nat) (x1c : Nat) (x5 : Option Addr) (x6 : Int) (x7 : Option Addr) (x8 : Int) (w : World) : Prop :=
  condP (x6 != x8) (K (.bool false) w) (law10_SpanPlays.p4 K x1A x1n x1c x5 x7 x8 w)
abbrev law10_SpanPlays.p2 (K : Value → World → Prop) (x1A : Option Addr) (x1n : Nat) (x1c : Nat) (x2 : Addr) (x5 : Option Addr) (x6 : Int) (w : World) : Prop :=
  ∃ (n15 : Int), w.cell? x2 = some (.int .i64 n15) ∧ ∃ (n16 : Int), w.cell? (x2.add 1) = some (.int .i64 n16) ∧ ∃ (n17 : Int), w.cell? (x2.add 2) = some (.int .i64 n17) ∧ ∃ (A18 : Option Addr) (m19 : Nat) (c20 : Nat), w.cell? (x2.add 3) = some (.slice A18 m19 c20) ∧ CallsE Tryd.prog 28 #[.agg #[.int .i64 n15, .int .i64 n16, .int .i64 n17, .slice A18 m19 c20]] w (fun v21 w22 => ∃ (p23 : Option Addr) (n24 : Int), v21 = .tuple #[.pointer p23, .int .i64 n24] ∧ law10_SpanPlays.p3 K x1A x1n x1c x5 x6 p23 n24 w22)
abbrev law10_SpanPlays.p1 (K : Value → World → Prop) (x1A : Option Addr) (x1n : Nat) (x1c : Nat) (x2 : Addr) (w : World) : Prop :=
  ∃ (n5 : Int), w.cell? x2 = some (.int .i64 n5) ∧ ∃ (n6 : Int), w.cell? (x2.add 1) = some (.int .i64 n6) ∧ ∃ (n7 : Int), w.cell? (x2.add 2) = some (.int .i64 n7) ∧ ∃ (A8 : Option Addr) (m9 : Nat) (c10 : Nat), w.cell? (x2.add 3) = some (.slice A8 m9 c10) ∧ CallsE Tryd.prog 16 #[.agg #[.int .i64 n5, .int .i64 n6, .int .i64 n7, .slice A8 m9 c10]] w (fun v11 w12 => ∃ (p13 : Option Addr) (n14 : Int), v11 = .tuple #[.pointer p13, .int .i64 n14] ∧ law10_SpanPlays.p2 K x1A x1n x1c x2 p13 n14 w12)
abbrev law10_SpanPlays.p0 (K : Value → World → Prop) (x1A : Option Addr) (x1n : Nat) (x1c : Nat) (x2 : Addr) (w : World) : Prop :=
  CallsE Tryd.prog 9 #[] w (fun v2 w3 => ∃ (b4 : Bool), v2 = .bool b4 ∧ condP (!b4) (K (.bool false) w3) (law10_SpanPlays.p1 K x1A x1n x1c x2 w3))
abbrev law10_SpanPlays.F (q0_0 : Int) (q0_1 : Int) (q0_2 : Int) (q0_3A : Option Addr) (q0_3n : Nat) (q0_3c : Nat) (q1A : Option Addr) (q1n : Nat) (q1c : Nat) (K : Value → World → Prop) (w : World) : Prop :=
  wlet (w.alloc (.cells #[.int .i64 q0_0, .int .i64 q0_1, .int .i64 q0_2, .slice q0_3A q0_3n q0_3c] 33)) fun w1 => law10_SpanPlays.p0 K q1A q1n q1c (⟨w.heap.size, 0, none⟩) w1
theorem law10_SpanPlays.ok {q0_0 : Int} {q0_1 : Int} {q0_2 : Int} {q0_3A : Option Addr} {q0_3n : Nat} {q0_3c : Nat} {q1A : Option Addr} {q1n : Nat} {q1c : Nat} {K : Value → World → Prop} {w : World} (h : law10_SpanPlays.F q0_0 q0_1 q0_2 q0_3A q0_3n q0_3c q1A q1n q1c K w) :
    CallsE Tryd.prog 8 #[.agg #[.int .i64 q0_0, .int .i64 q0_1, .int .i64 q0_2, .slice q0_3A q0_3n q0_3c], .slice q1A q1n q1c] w K := by
  refine calls_of_J (n := 109) (rs := [.tmp 4]) Tryd.func8 rfl rfl rfl rfl ?_
  refine J_seq (fun σ w => vS (σ 1) fun x1A x1n x1c => vPa (σ 2) fun x2 => law10_SpanPlays.p0 K x1A x1n x1c x2 w) ?_ ?_
  ·
    exact sh_sound _ _ _ _ (Eq.mp (by kernel_rfl) h)
  · intro σ w h
    obtain ⟨x1A, x1n, x1c, e1, h⟩ := vS_elim h
    obtain ⟨x2, e2, h⟩ := vPa_elim h
    refine J.sub ?_ (((Sub.base _).upd e1).upd e2)
    clear e1 e2
    refine J_seq (fun σ w => vS (σ 1) fun x1A x1n x1c => vPa (σ 2) fun x2 => law10_SpanPlays.p1 K x1A x1n x1c x2 w) ?_ ?_
    ·
      exact sh_sound _ _ _ _ (Eq.mp (by kernel_rfl) h)
    · intro σ w h
      obtain ⟨x1A, x1n, x1c, e1, h⟩ := vS_elim h
      obtain ⟨x2, e2, h⟩ := vPa_elim h
      refine J.sub ?_ (((Sub.base _).upd e1).upd e2)
      clear e1 e2
      refine J_seq (fun σ w => vS (σ 1) fun x1A x1n x1c => vPa (σ 2) fun x2 => vP (σ 5) fun x5 => vI .i64 (σ 6) fun x6 => law10_SpanPlays.p2 K x1A x1n x1c x2 x5 x6 w) ?_ ?_
      ·
        exact sh_sound _ _ _ _ (Eq.mp (by kernel_rfl) h)
      · intro σ w h
        obtain ⟨x1A, x1n, x1c, e1, h⟩ := vS_elim h
        obtain ⟨x2, e2, h⟩ := vPa_elim h
        obtain ⟨x5, e5, h⟩ := vP_elim h
        obtain ⟨x6, e6, h⟩ := vI_elim h
        refine J.sub ?_ (((((Sub.base _).upd e1).upd e2).upd e5).upd e6)
        clear e1 e2 e5 e6
        refine J_seq (fun σ w => vS (σ 1) fun x1A x1n x1c => vP (σ 5) fun x5 => vI .i64 (σ 6) fun x6 => vP (σ 7) fun x7 => vI .i64 (σ 8) fun x8 => law10_SpanPlays.p3 K x1A x1n x1c x5 x6 x7 x8 w) ?_ ?_
        ·
          exact sh_sound _ _ _ _ (Eq.mp (by kernel_rfl) h)
        · intro σ w h
          obtain ⟨x1A, x1n, x1c, e1, h⟩ := vS_elim h
          obtain ⟨x5, e5, h⟩ := vP_elim h
          obtain ⟨x6, e6, h⟩ := vI_elim h
          obtain ⟨x7, e7, h⟩ := vP_elim h
          obtain ⟨x8, e8, h⟩ := vI_elim h
          refine J.sub ?_ ((((((Sub.base _).upd e1).upd e5).upd e6).upd e7).upd e8)
          clear e1 e5 e6 e7 e8
          refine J_seq (fun σ w => vS (σ 1) fun x1A x1n x1c => vP (σ 5) fun x5 => vP (σ 7) fun x7 => vI .i64 (σ 8) fun x8 => law10_SpanPlays.p4 K x1A x1n x1c x5 x7 x8 w) ?_ ?_
          ·
            exact sh_sound _ _ _ _ (Eq.mp (by kernel_rfl) h)
          · intro σ w h
            obtain ⟨x1A, x1n, x1c, e1, h⟩ := vS_elim h
            obtain ⟨x5, e5, h⟩ := vP_elim h
            obtain ⟨x7, e7, h⟩ := vP_elim h
            obtain ⟨x8, e8, h⟩ := vI_elim h
            refine J.sub ?_ (((((Sub.base _).upd e1).upd e5).upd e7).upd e8)
            clear e1 e5 e7 e8
            refine J_seq (fun σ w => vS (σ 1) fun x1A x1n x1c => vP (σ 5) fun x5 => vP (σ 7) fun x7 => law10_SpanPlays.p5 K x1A x1n x1c x5 x7 w) ?_ ?_
            ·
              exact sh_sound _ _ _ _ (Eq.mp (by kernel_rfl) h)
            · intro σ w h
              obtain ⟨x1A, x1n, x1c, e1, h⟩ := vS_elim h
              obtain ⟨x5, e5, h⟩ := vP_elim h
              obtain ⟨x7, e7, h⟩ := vP_elim h
              refine J.sub ?_ ((((Sub.base _).upd e1).upd e5).upd e7)
              clear e1 e5 e7
              refine J_seq (fun σ w => vP (σ 5) fun x5 => vP (σ 7) fun x7 => law10_SpanPlays.p11 K x5 x7 w) ?_ ?_
              ·
                refine J_seq (fun σ w => vS (σ 1) fun x1A x1n x1c => vP (σ 5) fun x5 => vP (σ 7) fun x7 => vI .i64 (σ 9) fun x9 => law10_SpanPlays.p6 K x1A x1n x1c x5 x7 x9 w) ?_ ?_
                ·
                  exact sh_sound _ _ _ _ (Eq.mp (by kernel_rfl) h)
                · intro σ w h
                  obtain ⟨x1A, x1n, x1c, e1, h⟩ := vS_elim h
                  obtain ⟨x5, e5, h⟩ := vP_elim h
                  obtain ⟨x7, e7, h⟩ := vP_elim h
                  obtain ⟨x9, e9, h⟩ := vI_elim h
                  refine J.sub ?_ (((((Sub.base _).upd e1).upd e5).upd e7).upd e9)
                  clear e1 e5 e7 e9
                  refine J_block ?_
                  refine J_loop (fun k σ w => vS (σ 1) fun x1A x1n x1c => vP (σ 5) fun x5 => vP (σ 7) fun x7 => vI .i64 (σ 9) fun x9 => law10_SpanPlays.l0 K k x1A x1n x1c x5 x7 x9 w) (Eq.mp (by kernel_rfl) h) ?_ ?_
                  · intro σ w h
                    obtain ⟨x1A, x1n, x1c, e1, h⟩ := vS_elim h
                    obtain ⟨x5, e5, h⟩ := vP_elim h
                    obtain ⟨x7, e7, h⟩ := vP_elim h
                    obtain ⟨x9, e9, h⟩ := vI_elim h
                    exact h
                  · intro k0 σ w h
                    obtain ⟨x1A, x1n, x1c, e1, h⟩ := vS_elim h
                    obtain ⟨x5, e5, h⟩ := vP_elim h
                    obtain ⟨x7, e7, h⟩ := vP_elim h
                    obtain ⟨x9, e9, h⟩ := vI_elim h
                    refine J.sub ?_ (((((Sub.base _).upd e1).upd e5).upd e7).upd e9)
                    clear e1 e5 e7 e9
                    refine J_seq (fun σ w => vS (σ 1) fun x1A x1n x1c => vP (σ 5) fun x5 => vP (σ 7) fun x7 => vI .i64 (σ 9) fun x9 => law10_SpanPlays.p8 (law10_SpanPlays.l0 K k0) K x1A x1n x1c x5 x7 x9 w) ?_ ?_
                    ·
                      refine J_seq (fun σ w => vS (σ 1) fun x1A x1n x1c => vP (σ 5) fun x5 => vP (σ 7) fun x7 => vI .i64 (σ 9) fun x9 => vB (σ 36) fun x36 => law10_SpanPlays.p7 (law10_SpanPlays.l0 K k0) K x1A x1n x1c x5 x7 x9 x36 w) ?_ ?_
                      ·
                        exact sh_sound _ _ _ _ (Eq.mp (by kernel_rfl) h)
                      · intro σ w h
                        obtain ⟨x1A, x1n, x1c, e1, h⟩ := vS_elim h
                        obtain ⟨x5, e5, h⟩ := vP_elim h
                        obtain ⟨x7, e7, h⟩ := vP_elim h
                        obtain ⟨x9, e9, h⟩ := vI_elim h
                        obtain ⟨x36, e36, h⟩ := vB_elim h
                        refine J.sub ?_ ((((((Sub.base _).upd e1).upd e5).upd e7).upd e9).upd e36)
                        clear e1 e5 e7 e9 e36
                        exact sh_sound _ _ _ _ (Eq.mp (by kernel_rfl) h)
                    · intro σ w h
                      obtain ⟨x1A, x1n, x1c, e1, h⟩ := vS_elim h
                      obtain ⟨x5, e5, h⟩ := vP_elim h
                      obtain ⟨x7, e7, h⟩ := vP_elim h
                      obtain ⟨x9, e9, h⟩ := vI_elim h
                      refine J.sub ?_ (((((Sub.base _).upd e1).upd e5).upd e7).upd e9)
                      clear e1 e5 e7 e9
                      refine J_seq (fun σ w => vS (σ 1) fun x1A x1n x1c => vP (σ 5) fun x5 => vP (σ 7) fun x7 => vI .i64 (σ 9) fun x9 => law10_SpanPlays.p10 (law10_SpanPlays.l0 K k0) K x1A x1n x1c x5 x7 x9 w) ?_ ?_
                      ·
                        refine J_block ?_
                        refine J_seq (fun σ w => vS (σ 1) fun x1A x1n x1c => vP (σ 5) fun x5 => vP (σ 7) fun x7 => vI .i64 (σ 9) fun x9 => vB (σ 54) fun x54 => law10_SpanPlays.p9 (law10_SpanPlays.l0 K k0) K x1A x1n x1c x5 x7 x9 x54 w) ?_ ?_
                        ·
                          exact sh_sound _ _ _ _ (Eq.mp (by kernel_rfl) h)
                        · intro σ w h
                          obtain ⟨x1A, x1n, x1c, e1, h⟩ := vS_elim h
                          obtain ⟨x5, e5, h⟩ := vP_elim h
                          obtain ⟨x7, e7, h⟩ := vP_elim h
                          obtain ⟨x9, e9, h⟩ := vI_elim h
                          obtain ⟨x54, e54, h⟩ := vB_elim h
                          refine J.sub ?_ ((((((Sub.base _).upd e1).upd e5).upd e7).upd e9).upd e54)
                          clear e1 e5 e7 e9 e54
                          exact sh_sound _ _ _ _ (Eq.mp (by kernel_rfl) h)
                      · intro σ w h
                        obtain ⟨x1A, x1n, x1c, e1, h⟩ := vS_elim h
                        obtain ⟨x5, e5, h⟩ := vP_elim h
                        obtain ⟨x7, e7, h⟩ := vP_elim h
                        obtain ⟨x9, e9, h⟩ := vI_elim h
                        refine J.sub ?_ (((((Sub.base _).upd e1).upd e5).upd e7).upd e9)
                        clear e1 e5 e7 e9
                        exact sh_sound _ _ _ _ (Eq.mp (by kernel_rfl) h)
              · intro σ w h
                obtain ⟨x5, e5, h⟩ := vP_elim h
                obtain ⟨x7, e7, h⟩ := vP_elim h
                refine J.sub ?_ (((Sub.base _).upd e5).upd e7)
                clear e5 e7
                refine J_seq (fun σ w => vB (σ 4) fun x4 => law10_SpanPlays.p12 K x4 w) ?_ ?_
                ·
                  exact J_held [] [(0, 0), (2, 0), (1, 2), (3, 2), (4, 2), (5, 0), (6, 0), (8, 0), (9, 0), (10, 0), (11, 1), (7, 2), (12, 0), (13, 0), (14, 0), (15, 0), (17, 0), (18, 0), (19, 0), (20, 1), (16, 2), (21, 0), (22, 0), (23, 0), (24, 0), (26, 0), (25, 2), (27, 2), (28, 0), (29, 0), (30, 0), (31, 0), (33, 0), (34, 0), (35, 0), (36, 1), (37, 0), (32, 2), (38, 0), (39, 0), (40, 0), (41, 0), (43, 0), (44, 0), (45, 0), (47, 0), (48, 0), (49, 0), (46, 1), (50, 1), (42, 2), (51, 2), (52, 0), (53, 0), (54, 0)] (by kernel_rfl) (Eq.mp (by kernel_rfl) h)
                · intro σ w h
                  obtain ⟨x4, e4, h⟩ := vB_elim h
                  refine J.sub ?_ ((Sub.base _).upd e4)
                  clear e4
                  exact sh_sound _ _ _ _ (Eq.mp (by kernel_rfl) h)

/-! ### hayloft/hayloftlaw10.alive: function 9 -/
abbrev law10_alive.p7 (K : Value → World → Prop) (x0 : Bool) (w : World) : Prop :=
  K (.bool x0) w
abbrev law10_alive.p6 (K : Value → World → Prop) (x3 : Int) (x4 : Bool) (x5 : Int) (x6 : Bool) (x7 : Int) (x8 : Bool) (w : World) : Prop :=
  condP (x3 == (0 : Int)) (condP x4 (condP (x5 == (584 : Int)) (condP x6 (condP (x7 == (3 : Int)) (law10_alive.p7 K x8 w) (law10_alive.p7 K false w)) (law10_alive.p7 K false w)) (law10_alive.p7 K false w)) (law10_alive.p7 K false w)) (law10_alive.p7 K false w)
abbrev law10_alive.p5 (K : Value → World → Prop) (x1 : Option Addr) (x3 : Int) (x4 : Bool) (x5 : Int) (x6 : Bool) (w : World) : Prop :=
  CallsE Tryd.prog 13 #[.pointer x1, .int .i64 584] w (fun v13 w14 => ∃ (n15 : Int) (b16 : Bool), v13 = .tuple #[.int .i64 n15, .bool b16] ∧ law10_alive.p6 K x3 x4 x5 x6 n15 b16 w14)
abbrev law10_alive.p4 (K : Value → World → Prop) (x1 : Option Addr) (x3 : Int) (x4 : Bool) (w : World) : Prop :=
  CallsE Tryd.prog 12 #[.pointer x1, .int .i64 3] w (fun v9 w10 => ∃ (n11 : Int) (b12 : Bool), v9 = .tuple #[.int .i64 n11, .bool b12] ∧ law10_alive.p5 K x1 x3 x4 n11 b12 w10)
abbrev law10_alive.p3 (K : Value → World → Prop) (x1 : Option Addr) (w : World) : Prop :=
  CallsE Tryd.prog 20 #[.pointer x1] w (fun v5 w6 => ∃ (n7 : Int) (b8 : Bool), v5 = .tuple #[.int .i64 n7, .bool b8] ∧ law10_alive.p4 K x1 n7 b8 w6)
abbrev law10_alive.p2 (K : Value → World → Prop) (x1 : Option Addr) (x28 : Bool) (w : World) : Prop :=
  condP x28 (K (.bool false) w) (law10_alive.p3 K x1 w)
abbrev law10_alive.p1 (K : Value → World → Prop) (x1 : Option Addr) (x2 : Int) (w : World) : Prop :=
  condP (x2 != (0 : Int)) (law10_alive.p2 K x1 true w) (condP x1.isNone (law10_alive.p2 K x1 true w) (CallsE Tryd.prog 11 #[.pointer x1] w (fun v17 w18 => ∃ (n19 : Int), v17 = .int .i64 n19 ∧ condP (n19 != (10 : Int)) (law10_alive.p2 K x1 true w18) (CallsE Tryd.prog 14 #[.pointer x1] w18 (fun v20 w21 => ∃ (n22 : Int), v20 = .int .i64 n22 ∧ law10_alive.p2 K x1 (n22 != (24 : Int)) w21)))))
abbrev law10_alive.p0 (K : Value → World → Prop) (w : World) : Prop :=
  CallsE Tryd.prog 10 #[.int .i64 2, .int .i64 1, .int .i64 0] w (fun v1 w2 => ∃ (p3 : Option Addr) (n4 : Int), v1 = .tuple #[.pointer p3, .int .i64 n4] ∧ law10_alive.p1 K p3 n4 w2)
abbrev law10_alive.F (K : Value → World → Prop) (w : World) : Prop :=
  law10_alive.p0 K w
theorem law10_alive.ok {K : Value → World → Prop} {w : World} (h : law10_alive.F K w) :
    CallsE Tryd.prog 9 #[] w K := by
  refine calls_of_J (n := 63) (rs := [.tmp 0]) Tryd.func9 rfl rfl rfl rfl ?_
  refine J_seq (fun σ w => law10_alive.p0 K w) ?_ ?_
  ·
    exact sh_sound _ _ _ _ (Eq.mp (by kernel_rfl) h)
  · intro σ w h
    refine J.sub ?_ (Sub.base _)
    refine J_seq (fun σ w => vP (σ 1) fun x1 => vI .i64 (σ 2) fun x2 => law10_alive.p1 K x1 x2 w) ?_ ?_
    ·
      exact sh_sound _ _ _ _ (Eq.mp (by kernel_rfl) h)
    · intro σ w h
      obtain ⟨x1, e1, h⟩ := vP_elim h
      obtain ⟨x2, e2, h⟩ := vI_elim h
      refine J.sub ?_ (((Sub.base _).upd e1).upd e2)
      clear e1 e2
      refine J_seq (fun σ w => vP (σ 1) fun x1 => law10_alive.p3 K x1 w) ?_ ?_
      ·
        refine J_seq (fun σ w => vP (σ 1) fun x1 => vB (σ 28) fun x28 => law10_alive.p2 K x1 x28 w) ?_ ?_
        ·
          exact sh_sound _ _ _ _ (Eq.mp (by kernel_rfl) h)
        · intro σ w h
          obtain ⟨x1, e1, h⟩ := vP_elim h
          obtain ⟨x28, e28, h⟩ := vB_elim h
          refine J.sub ?_ (((Sub.base _).upd e1).upd e28)
          clear e1 e28
          exact sh_sound _ _ _ _ (Eq.mp (by kernel_rfl) h)
      · intro σ w h
        obtain ⟨x1, e1, h⟩ := vP_elim h
        refine J.sub ?_ ((Sub.base _).upd e1)
        clear e1
        refine J_seq (fun σ w => vP (σ 1) fun x1 => vI .i64 (σ 3) fun x3 => vB (σ 4) fun x4 => law10_alive.p4 K x1 x3 x4 w) ?_ ?_
        ·
          exact sh_sound _ _ _ _ (Eq.mp (by kernel_rfl) h)
        · intro σ w h
          obtain ⟨x1, e1, h⟩ := vP_elim h
          obtain ⟨x3, e3, h⟩ := vI_elim h
          obtain ⟨x4, e4, h⟩ := vB_elim h
          refine J.sub ?_ ((((Sub.base _).upd e1).upd e3).upd e4)
          clear e1 e3 e4
          refine J_seq (fun σ w => vP (σ 1) fun x1 => vI .i64 (σ 3) fun x3 => vB (σ 4) fun x4 => vI .i64 (σ 5) fun x5 => vB (σ 6) fun x6 => law10_alive.p5 K x1 x3 x4 x5 x6 w) ?_ ?_
          ·
            exact sh_sound _ _ _ _ (Eq.mp (by kernel_rfl) h)
          · intro σ w h
            obtain ⟨x1, e1, h⟩ := vP_elim h
            obtain ⟨x3, e3, h⟩ := vI_elim h
            obtain ⟨x4, e4, h⟩ := vB_elim h
            obtain ⟨x5, e5, h⟩ := vI_elim h
            obtain ⟨x6, e6, h⟩ := vB_elim h
            refine J.sub ?_ ((((((Sub.base _).upd e1).upd e3).upd e4).upd e5).upd e6)
            clear e1 e3 e4 e5 e6
            refine J_seq (fun σ w => vI .i64 (σ 3) fun x3 => vB (σ 4) fun x4 => vI .i64 (σ 5) fun x5 => vB (σ 6) fun x6 => vI .i64 (σ 7) fun x7 => vB (σ 8) fun x8 => law10_alive.p6 K x3 x4 x5 x6 x7 x8 w) ?_ ?_
            ·
              exact sh_sound _ _ _ _ (Eq.mp (by kernel_rfl) h)
            · intro σ w h
              obtain ⟨x3, e3, h⟩ := vI_elim h
              obtain ⟨x4, e4, h⟩ := vB_elim h
              obtain ⟨x5, e5, h⟩ := vI_elim h
              obtain ⟨x6, e6, h⟩ := vB_elim h
              obtain ⟨x7, e7, h⟩ := vI_elim h
              obtain ⟨x8, e8, h⟩ := vB_elim h
              refine J.sub ?_ (((((((Sub.base _).upd e3).upd e4).upd e5).upd e6).upd e7).upd e8)
              clear e3 e4 e5 e6 e7 e8
              refine J_seq (fun σ w => vB (σ 0) fun x0 => law10_alive.p7 K x0 w) ?_ ?_
              ·
                exact sh_sound _ _ _ _ (Eq.mp (by kernel_rfl) h)
              · intro σ w h
                obtain ⟨x0, e0, h⟩ := vB_elim h
                refine J.sub ?_ ((Sub.base _).upd e0)
                clear e0
                exact sh_sound _ _ _ _ (Eq.mp (by kernel_rfl) h)

/-! ### hayloft/span.New: function 10 -/
abbrev span_New.p6 (K : Value → World → Prop) (x1 : Int) (x8 : Addr) (w : World) : Prop :=
  CallsE Tryd.prog 37 #[.int .i64 x1] w (fun v15 w16 => ∃ (n17 : Int), v15 = .int .i64 n17 ∧ CallsE Tryd.prog 36 #[.int .i64 n17] w16 (fun v18 w19 => ∃ (p20 : Option Addr), v18 = .pointer p20 ∧ ∃ (a21 : Addr), some x8 = some a21 ∧ canStore w19 a21 ∧ wlet (w19.setCell a21 (.pointer p20)) fun w22 => K (.tuple #[.pointer (some x8), .int .i64 0]) w22))
abbrev span_New.p5 (K : Value → World → Prop) (x1 : Int) (x8 : Addr) (x54 : Bool) (w : World) : Prop :=
  condP x54 (K (.tuple #[.pointer none, .int .i64 10]) w) (span_New.p6 K x1 x8 w)
abbrev span_New.p4 (K : Value → World → Prop) (x0 : Int) (x1 : Int) (x8 : Addr) (w : World) : Prop :=
  condP (decide (x0 < (0 : Int))) (span_New.p5 K x1 x8 true w) (∃ (a23 : Addr), some x8 = some a23 ∧ ∃ (n24 : Int), w.cell? (a23.add 2) = some (.int .i64 n24) ∧ span_New.p5 K x1 x8 (decide ((IntKind.wrap .i64 ((4096 : Int) - n24)) < x0)) w)
abbrev span_New.p3 (K : Value → World → Prop) (x0 : Int) (x1 : Int) (x2 : Int) (x8 : Addr) (x22 : Bool) (w : World) : Prop :=
  condP x22 (K (.tuple #[.pointer none, .int .i64 2]) w) (condP (x1 == (7 : Int)) (CallsE Tryd.prog 34 #[.int .i64 x2] w (fun v5 w6 => ∃ (n7 : Int), v5 = .int .i64 n7 ∧ condP (n7 != (7 : Int)) (K (.tuple #[.pointer none, .int .i64 2]) w6) (CallsE Tryd.prog 35 #[.int .i64 x2] w6 (fun v8 w9 => ∃ (n10 : Int), v8 = .int .i64 n10 ∧ ∃ (a11 : Addr), some x8 = some a11 ∧ canStore w9 (a11.add 2) ∧ wlet (w9.setCell (a11.add 2) (.int .i64 n10)) fun w12 => ∃ (a13 : Addr), some x8 = some a13 ∧ canStore w12 (a13.add 4) ∧ wlet (w12.setCell (a13.add 4) (.int .i64 x2)) fun w14 => span_New.p4 K x0 x1 x8 w14)))) (span_New.p4 K x0 x1 x8 w))
abbrev span_New.p2 (K : Value → World → Prop) (x0 : Int) (x1 : Int) (x2 : Int) (x8 : Addr) (x15 : Bool) (w : World) : Prop :=
  condP x15 (K (.tuple #[.pointer none, .int .i64 11]) w) (condP (decide (x1 < (7 : Int))) (span_New.p3 K x0 x1 x2 x8 (x2 != (0 : Int)) w) (span_New.p3 K x0 x1 x2 x8 false w))
abbrev span_New.p1 (K : Value → World → Prop) (x0 : Int) (x1 : Int) (x2 : Int) (x8 : Addr) (w : World) : Prop :=
  condP (decide (x1 < (0 : Int))) (span_New.p2 K x0 x1 x2 x8 true w) (span_New.p2 K x0 x1 x2 x8 (decide ((7 : Int) < x1)) w)
abbrev span_New.p0 (K : Value → World → Prop) (x0 : Int) (x1 : Int) (x2 : Int) (w : World) : Prop :=
  CallsE Tryd.prog 33 #[.int .i64 x1] w (fun v1 w2 => ∃ (n3 : Int), v1 = .int .i64 n3 ∧ wlet (w2.alloc (.cells #[.pointer none, .int .i64 x0, .int .i64 1, .int .i64 x1, .int .i64 n3] 59)) fun w4 => span_New.p1 K x0 x1 x2 (⟨w2.heap.size, 0, none⟩) w4)
abbrev span_New.F (q0 : Int) (q1 : Int) (q2 : Int) (K : Value → World → Prop) (w : World) : Prop :=
  span_New.p0 K q0 q1 q2 w
theorem span_New.ok {q0 : Int} {q1 : Int} {q2 : Int} {K : Value → World → Prop} {w : World} (h : span_New.F q0 q1 q2 K w) :
    CallsE Tryd.prog 10 #[.int .i64 q0, .int .i64 q1, .int .i64 q2] w K := by
  refine calls_of_J (n := 63) (rs := [.tmp 6, .tmp 7]) Tryd.func10 rfl rfl rfl rfl ?_
  refine J_seq (fun σ w => vI .i64 (σ 0) fun x0 => vI .i64 (σ 1) fun x1 => vI .i64 (σ 2) fun x2 => span_New.p0 K x0 x1 x2 w) ?_ ?_
  ·
    exact sh_sound _ _ _ _ (Eq.mp (by kernel_rfl) h)
  · intro σ w h
    obtain ⟨x0, e0, h⟩ := vI_elim h
    obtain ⟨x1, e1, h⟩ := vI_elim h
    obtain ⟨x2, e2, h⟩ := vI_elim h
    refine J.sub ?_ ((((Sub.base _).upd e0).upd e1).upd e2)
    clear e0 e1 e2
    refine J_seq (fun σ w => vI .i64 (σ 0) fun x0 => vI .i64 (σ 1) fun x1 => vI .i64 (σ 2) fun x2 => vPa (σ 8) fun x8 => span_New.p1 K x0 x1 x2 x8 w) ?_ ?_
    ·
      exact sh_sound _ _ _ _ (Eq.mp (by kernel_rfl) h)
    · intro σ w h
      obtain ⟨x0, e0, h⟩ := vI_elim h
      obtain ⟨x1, e1, h⟩ := vI_elim h
      obtain ⟨x2, e2, h⟩ := vI_elim h
      obtain ⟨x8, e8, h⟩ := vPa_elim h
      refine J.sub ?_ (((((Sub.base _).upd e0).upd e1).upd e2).upd e8)
      clear e0 e1 e2 e8
      refine J_seq (fun σ w => vI .i64 (σ 0) fun x0 => vI .i64 (σ 1) fun x1 => vPa (σ 8) fun x8 => span_New.p4 K x0 x1 x8 w) ?_ ?_
      ·
        refine J_block ?_
        refine J_seq (fun σ w => vI .i64 (σ 0) fun x0 => vI .i64 (σ 1) fun x1 => vI .i64 (σ 2) fun x2 => vPa (σ 8) fun x8 => vB (σ 15) fun x15 => span_New.p2 K x0 x1 x2 x8 x15 w) ?_ ?_
        ·
          exact sh_sound _ _ _ _ (Eq.mp (by kernel_rfl) h)
        · intro σ w h
          obtain ⟨x0, e0, h⟩ := vI_elim h
          obtain ⟨x1, e1, h⟩ := vI_elim h
          obtain ⟨x2, e2, h⟩ := vI_elim h
          obtain ⟨x8, e8, h⟩ := vPa_elim h
          obtain ⟨x15, e15, h⟩ := vB_elim h
          refine J.sub ?_ ((((((Sub.base _).upd e0).upd e1).upd e2).upd e8).upd e15)
          clear e0 e1 e2 e8 e15
          refine J_cond' h (by kernel_rfl) (fun h => ?_) (fun h => ?_)
          ·
            exact sh_sound _ _ _ _ (Eq.mp (by kernel_rfl) h)
          ·
            refine J_seq (fun σ w => vI .i64 (σ 0) fun x0 => vI .i64 (σ 1) fun x1 => vI .i64 (σ 2) fun x2 => vPa (σ 8) fun x8 => vB (σ 22) fun x22 => span_New.p3 K x0 x1 x2 x8 x22 w) ?_ ?_
            ·
              exact sh_sound _ _ _ _ (Eq.mp (by kernel_rfl) h)
            · intro σ w h
              obtain ⟨x0, e0, h⟩ := vI_elim h
              obtain ⟨x1, e1, h⟩ := vI_elim h
              obtain ⟨x2, e2, h⟩ := vI_elim h
              obtain ⟨x8, e8, h⟩ := vPa_elim h
              obtain ⟨x22, e22, h⟩ := vB_elim h
              refine J.sub ?_ ((((((Sub.base _).upd e0).upd e1).upd e2).upd e8).upd e22)
              clear e0 e1 e2 e8 e22
              exact sh_sound _ _ _ _ (Eq.mp (by kernel_rfl) h)
      · intro σ w h
        obtain ⟨x0, e0, h⟩ := vI_elim h
        obtain ⟨x1, e1, h⟩ := vI_elim h
        obtain ⟨x8, e8, h⟩ := vPa_elim h
        refine J.sub ?_ ((((Sub.base _).upd e0).upd e1).upd e8)
        clear e0 e1 e8
        refine J_seq (fun σ w => vI .i64 (σ 1) fun x1 => vPa (σ 8) fun x8 => span_New.p6 K x1 x8 w) ?_ ?_
        ·
          refine J_seq (fun σ w => vI .i64 (σ 1) fun x1 => vPa (σ 8) fun x8 => vB (σ 54) fun x54 => span_New.p5 K x1 x8 x54 w) ?_ ?_
          ·
            exact sh_sound _ _ _ _ (Eq.mp (by kernel_rfl) h)
          · intro σ w h
            obtain ⟨x1, e1, h⟩ := vI_elim h
            obtain ⟨x8, e8, h⟩ := vPa_elim h
            obtain ⟨x54, e54, h⟩ := vB_elim h
            refine J.sub ?_ ((((Sub.base _).upd e1).upd e8).upd e54)
            clear e1 e8 e54
            exact sh_sound _ _ _ _ (Eq.mp (by kernel_rfl) h)
        · intro σ w h
          obtain ⟨x1, e1, h⟩ := vI_elim h
          obtain ⟨x8, e8, h⟩ := vPa_elim h
          refine J.sub ?_ (((Sub.base _).upd e1).upd e8)
          clear e1 e8
          exact sh_sound _ _ _ _ (Eq.mp (by kernel_rfl) h)

/-! ### (*hayloft/span.Span).Slots: function 11 -/
abbrev span_Span_Slots.F (q0 : Option Addr) (K : Value → World → Prop) (w : World) : Prop :=
  condP q0.isNone (K (.int .i64 0) w) (∃ (a1 : Addr), q0 = some a1 ∧ ∃ (p2 : Option Addr), w.cell? a1 = some (.pointer p2) ∧ CallsE Tryd.prog 38 #[.agg #[.pointer p2]] w (fun v3 w4 => ∃ (n5 : Int), v3 = .int .i64 n5 ∧ K (.int .i64 n5) w4))
theorem span_Span_Slots.ok {q0 : Option Addr} {K : Value → World → Prop} {w : World} (h : span_Span_Slots.F q0 K w) :
    CallsE Tryd.prog 11 #[.pointer q0] w K := by
  refine calls_of_J (n := 10) (rs := [.tmp 2]) Tryd.func11 rfl rfl rfl rfl ?_
  exact sh_sound _ _ _ _ (Eq.mp (by kernel_rfl) h)

/-! ### (*hayloft/span.Span).At: function 12 -/
abbrev span_Span_At.p2 (K : Value → World → Prop) (x0 : Option Addr) (x1 : Int) (w : World) : Prop :=
  ∃ (a1 : Addr), x0 = some a1 ∧ ∃ (n2 : Int), w.cell? (a1.add 1) = some (.int .i64 n2) ∧ ∃ (a3 : Addr), x0 = some a3 ∧ ∃ (n4 : Int), w.cell? (a3.add 4) = some (.int .i64 n4) ∧ K (.tuple #[.int .i64 (IntKind.wrap .i64 ((IntKind.wrap .i64 (n2 * (256 : Int))) + (IntKind.wrap .i64 (x1 * n4)))), .bool true]) w
abbrev span_Span_At.p1 (K : Value → World → Prop) (x0 : Option Addr) (x1 : Int) (x13 : Bool) (w : World) : Prop :=
  condP x13 (K (.tuple #[.int .i64 0, .bool false]) w) (span_Span_At.p2 K x0 x1 w)
abbrev span_Span_At.p0 (K : Value → World → Prop) (x0 : Option Addr) (x1 : Int) (w : World) : Prop :=
  condP (decide (x1 < (0 : Int))) (span_Span_At.p1 K x0 x1 true w) (CallsE Tryd.prog 11 #[.pointer x0] w (fun v5 w6 => ∃ (n7 : Int), v5 = .int .i64 n7 ∧ span_Span_At.p1 K x0 x1 (decide (n7 ≤ x1)) w6))
abbrev span_Span_At.F (q0 : Option Addr) (q1 : Int) (K : Value → World → Prop) (w : World) : Prop :=
  span_Span_At.p0 K q0 q1 w
theorem span_Span_At.ok {q0 : Option Addr} {q1 : Int} {K : Value → World → Prop} {w : World} (h : span_Span_At.F q0 q1 K w) :
    CallsE Tryd.prog 12 #[.pointer q0, .int .i64 q1] w K := by
  refine calls_of_J (n := 26) (rs := [.tmp 4, .tmp 5]) Tryd.func12 rfl rfl rfl rfl ?_
  refine J_seq (fun σ w => vP (σ 0) fun x0 => vI .i64 (σ 1) fun x1 => span_Span_At.p0 K x0 x1 w) ?_ ?_
  ·
    exact sh_sound _ _ _ _ (Eq.mp (by kernel_rfl) h)
  · intro σ w h
    obtain ⟨x0, e0, h⟩ := vP_elim h
    obtain ⟨x1, e1, h⟩ := vI_elim h
    refine J.sub ?_ (((Sub.base _).upd e0).upd e1)
    clear e0 e1
    refine J_seq (fun σ w => vP (σ 0) fun x0 => vI .i64 (σ 1) fun x1 => span_Span_At.p2 K x0 x1 w) ?_ ?_
    ·
      refine J_seq (fun σ w => vP (σ 0) fun x0 => vI .i64 (σ 1) fun x1 => vB (σ 13) fun x13 => span_Span_At.p1 K x0 x1 x13 w) ?_ ?_
      ·
        exact sh_sound _ _ _ _ (Eq.mp (by kernel_rfl) h)
      · intro σ w h
        obtain ⟨x0, e0, h⟩ := vP_elim h
        obtain ⟨x1, e1, h⟩ := vI_elim h
        obtain ⟨x13, e13, h⟩ := vB_elim h
        refine J.sub ?_ ((((Sub.base _).upd e0).upd e1).upd e13)
        clear e0 e1 e13
        exact sh_sound _ _ _ _ (Eq.mp (by kernel_rfl) h)
    · intro σ w h
      obtain ⟨x0, e0, h⟩ := vP_elim h
      obtain ⟨x1, e1, h⟩ := vI_elim h
      refine J.sub ?_ (((Sub.base _).upd e0).upd e1)
      clear e0 e1
      exact sh_sound _ _ _ _ (Eq.mp (by kernel_rfl) h)

/-! ### (*hayloft/span.Span).Slot: function 13 -/
abbrev span_Span_Slot.p5 (K : Value → World → Prop) (x0 : Option Addr) (x6 : Int) (w : World) : Prop :=
  ∃ (a6 : Addr), x0 = some a6 ∧ ∃ (n7 : Int), w.cell? (a6.add 4) = some (.int .i64 n7) ∧ n7 ≠ 0 ∧ K (.tuple #[.int .i64 (IntKind.wrap .i64 (Int.tdiv x6 n7)), .bool true]) w
abbrev span_Span_Slot.p4 (K : Value → World → Prop) (x0 : Option Addr) (x6 : Int) (x42 : Bool) (w : World) : Prop :=
  condP x42 (K (.tuple #[.int .i64 0, .bool false]) w) (span_Span_Slot.p5 K x0 x6 w)
abbrev span_Span_Slot.p3 (K : Value → World → Prop) (x0 : Option Addr) (x6 : Int) (w : World) : Prop :=
  ∃ (S3 : Array Obj → Prop), S3 w.heap ∧ ∃ (a4 : Addr), x0 = some a4 ∧ ∃ (n5 : Int), (∀ w' : World, S3 w'.heap → w'.cell? (a4.add 4) = some (.int .i64 n5)) ∧ n5 ≠ 0 ∧ condP ((Int.tmod x6 n5) != (0 : Int)) (span_Span_Slot.p4 K x0 x6 true w) (∃ (a8 : Addr), x0 = some a8 ∧ ∃ (n9 : Int), (∀ w' : World, S3 w'.heap → w'.cell? (a8.add 4) = some (.int .i64 n9)) ∧ n9 ≠ 0 ∧ CallsE Tryd.prog 11 #[.pointer x0] w (fun v10 w11 => ∃ (n12 : Int), v10 = .int .i64 n12 ∧ S3 w11.heap ∧ span_Span_Slot.p4 K x0 x6 (decide (n12 ≤ (IntKind.wrap .i64 (Int.tdiv x6 n9)))) w11))
abbrev span_Span_Slot.p2 (K : Value → World → Prop) (x0 : Option Addr) (x1 : Int) (w : World) : Prop :=
  ∃ (a1 : Addr), x0 = some a1 ∧ ∃ (n2 : Int), w.cell? (a1.add 1) = some (.int .i64 n2) ∧ span_Span_Slot.p3 K x0 (IntKind.wrap .i64 (x1 - (IntKind.wrap .i64 (n2 * (256 : Int))))) w
abbrev span_Span_Slot.p1 (K : Value → World → Prop) (x0 : Option Addr) (x1 : Int) (x17 : Bool) (w : World) : Prop :=
  condP x17 (K (.tuple #[.int .i64 0, .bool false]) w) (span_Span_Slot.p2 K x0 x1 w)
abbrev span_Span_Slot.p0 (K : Value → World → Prop) (x0 : Option Addr) (x1 : Int) (w : World) : Prop :=
  condP x0.isNone (span_Span_Slot.p1 K x0 x1 true w) (∃ (a13 : Addr), x0 = some a13 ∧ ∃ (n14 : Int), w.cell? (a13.add 1) = some (.int .i64 n14) ∧ span_Span_Slot.p1 K x0 x1 (decide (x1 < (IntKind.wrap .i64 (n14 * (256 : Int))))) w)
abbrev span_Span_Slot.F (q0 : Option Addr) (q1 : Int) (K : Value → World → Prop) (w : World) : Prop :=
  span_Span_Slot.p0 K q0 q1 w
theorem span_Span_Slot.ok {q0 : Option Addr} {q1 : Int} {K : Value → World → Prop} {w : World} (h : span_Span_Slot.F q0 q1 K w) :
    CallsE Tryd.prog 13 #[.pointer q0, .int .i64 q1] w K := by
  refine calls_of_J (n := 49) (rs := [.tmp 4, .tmp 5]) Tryd.func13 rfl rfl rfl rfl ?_
  refine J_seq (fun σ w => vP (σ 0) fun x0 => vI .i64 (σ 1) fun x1 => span_Span_Slot.p0 K x0 x1 w) ?_ ?_
  ·
    exact sh_sound _ _ _ _ (Eq.mp (by kernel_rfl) h)
  · intro σ w h
    obtain ⟨x0, e0, h⟩ := vP_elim h
    obtain ⟨x1, e1, h⟩ := vI_elim h
    refine J.sub ?_ (((Sub.base _).upd e0).upd e1)
    clear e0 e1
    refine J_seq (fun σ w => vP (σ 0) fun x0 => vI .i64 (σ 1) fun x1 => span_Span_Slot.p2 K x0 x1 w) ?_ ?_
    ·
      refine J_seq (fun σ w => vP (σ 0) fun x0 => vI .i64 (σ 1) fun x1 => vB (σ 17) fun x17 => span_Span_Slot.p1 K x0 x1 x17 w) ?_ ?_
      ·
        exact sh_sound _ _ _ _ (Eq.mp (by kernel_rfl) h)
      · intro σ w h
        obtain ⟨x0, e0, h⟩ := vP_elim h
        obtain ⟨x1, e1, h⟩ := vI_elim h
        obtain ⟨x17, e17, h⟩ := vB_elim h
        refine J.sub ?_ ((((Sub.base _).upd e0).upd e1).upd e17)
        clear e0 e1 e17
        exact sh_sound _ _ _ _ (Eq.mp (by kernel_rfl) h)
    · intro σ w h
      obtain ⟨x0, e0, h⟩ := vP_elim h
      obtain ⟨x1, e1, h⟩ := vI_elim h
      refine J.sub ?_ (((Sub.base _).upd e0).upd e1)
      clear e0 e1
      refine J_seq (fun σ w => vP (σ 0) fun x0 => vI .i64 (σ 6) fun x6 => span_Span_Slot.p3 K x0 x6 w) ?_ ?_
      ·
        exact sh_sound _ _ _ _ (Eq.mp (by kernel_rfl) h)
      · intro σ w h
        obtain ⟨x0, e0, h⟩ := vP_elim h
        obtain ⟨x6, e6, h⟩ := vI_elim h
        refine J.sub ?_ (((Sub.base _).upd e0).upd e6)
        clear e0 e6
        refine J_seq (fun σ w => vP (σ 0) fun x0 => vI .i64 (σ 6) fun x6 => span_Span_Slot.p5 K x0 x6 w) ?_ ?_
        ·
          refine J_seq (fun σ w => vP (σ 0) fun x0 => vI .i64 (σ 6) fun x6 => vB (σ 42) fun x42 => span_Span_Slot.p4 K x0 x6 x42 w) ?_ ?_
          ·
            exact J_held [] [(0, 0), (1, 0), (2, 0), (3, 0), (4, 1), (5, 0), (6, 0), (7, 0), (8, 0), (9, 0), (10, 0), (11, 0), (14, 0), (12, 1), (13, 0), (15, 2), (16, 0), (17, 0)] (by kernel_rfl) (Eq.mp (by kernel_rfl) h)
          · intro σ w h
            obtain ⟨x0, e0, h⟩ := vP_elim h
            obtain ⟨x6, e6, h⟩ := vI_elim h
            obtain ⟨x42, e42, h⟩ := vB_elim h
            refine J.sub ?_ ((((Sub.base _).upd e0).upd e6).upd e42)
            clear e0 e6 e42
            exact sh_sound _ _ _ _ (Eq.mp (by kernel_rfl) h)
        · intro σ w h
          obtain ⟨x0, e0, h⟩ := vP_elim h
          obtain ⟨x6, e6, h⟩ := vI_elim h
          refine J.sub ?_ (((Sub.base _).upd e0).upd e6)
          clear e0 e6
          exact sh_sound _ _ _ _ (Eq.mp (by kernel_rfl) h)

/-! ### (*hayloft/span.Span).Size: function 14 -/
abbrev span_Span_Size.F (q0 : Option Addr) (K : Value → World → Prop) (w : World) : Prop :=
  condP q0.isNone (K (.int .i64 0) w) (∃ (a1 : Addr), q0 = some a1 ∧ ∃ (n2 : Int), w.cell? (a1.add 4) = some (.int .i64 n2) ∧ K (.int .i64 n2) w)
theorem span_Span_Size.ok {q0 : Option Addr} {K : Value → World → Prop} {w : World} (h : span_Span_Size.F q0 K w) :
    CallsE Tryd.prog 14 #[.pointer q0] w K := by
  refine calls_of_J (n := 9) (rs := [.tmp 2]) Tryd.func14 rfl rfl rfl rfl ?_
  exact sh_sound _ _ _ _ (Eq.mp (by kernel_rfl) h)

/-! ### (*hayloft/span.Span).Pages: function 15 -/
abbrev span_Span_Pages.F (q0 : Option Addr) (K : Value → World → Prop) (w : World) : Prop :=
  condP q0.isNone (K (.int .i64 0) w) (∃ (a1 : Addr), q0 = some a1 ∧ ∃ (n2 : Int), w.cell? (a1.add 2) = some (.int .i64 n2) ∧ K (.int .i64 n2) w)
theorem span_Span_Pages.ok {q0 : Option Addr} {K : Value → World → Prop} {w : World} (h : span_Span_Pages.F q0 K w) :
    CallsE Tryd.prog 15 #[.pointer q0] w K := by
  refine calls_of_J (n := 9) (rs := [.tmp 2]) Tryd.func15 rfl rfl rfl rfl ?_
  exact sh_sound _ _ _ _ (Eq.mp (by kernel_rfl) h)

/-! ### hayloft/span.Of: function 16 -/
abbrev span_Of.p10 (L0 : Option Addr → Int → Option Addr → Nat → Nat → Int → Int → World → Prop) (K : Value → World → Prop) (x4 : Option Addr) (x6 : Int) (x23A : Option Addr) (x23n : Nat) (x23c : Nat) (x24 : Int) (x25 : Int) (w : World) : Prop :=
  L0 x4 x6 x23A x23n x23c x24 (IntKind.wrap .i64 (x25 + (1 : Int))) w
abbrev span_Of.p9 (L0 : Option Addr → Int → Option Addr → Nat → Nat → Int → Int → World → Prop) (K : Value → World → Prop) (x4 : Option Addr) (x8 : Int) (x23A : Option Addr) (x23n : Nat) (x23c : Nat) (x24 : Int) (x25 : Int) (w : World) : Prop :=
  span_Of.p10 L0 K x4 x8 x23A x23n x23c x24 x25 w
abbrev span_Of.p8 (L0 : Option Addr → Int → Option Addr → Nat → Nat → Int → Int → World → Prop) (K : Value → World → Prop) (x4 : Option Addr) (x8 : Int) (x23A : Option Addr) (x23n : Nat) (x23c : Nat) (x24 : Int) (x25 : Int) (x41 : Bool) (w : World) : Prop :=
  condP x41 (K (.tuple #[.pointer none, .int .i64 4]) w) (span_Of.p9 L0 K x4 x8 x23A x23n x23c x24 x25 w)
abbrev span_Of.p7 (L0 : Option Addr → Int → Option Addr → Nat → Nat → Int → Int → World → Prop) (K : Value → World → Prop) (x4 : Option Addr) (x6 : Int) (x8 : Int) (x23A : Option Addr) (x23n : Nat) (x23c : Nat) (x24 : Int) (x25 : Int) (w : World) : Prop :=
  condP (decide (x8 ≤ x6)) (span_Of.p8 L0 K x4 x8 x23A x23n x23c x24 x25 true w) (∃ (a14 : Addr), x4 = some a14 ∧ ∃ (p15 : Option Addr), w.cell? a14 = some (.pointer p15) ∧ CallsE Tryd.prog 39 #[.pointer p15, .int .i64 x8] w (fun v16 w17 => ∃ (b18 : Bool), v16 = .bool b18 ∧ span_Of.p8 L0 K x4 x8 x23A x23n x23c x24 x25 (!b18) w17))
abbrev span_Of.p6 (L0 : Option Addr → Int → Option Addr → Nat → Nat → Int → Int → World → Prop) (K : Value → World → Prop) (x4 : Option Addr) (x6 : Int) (x23A : Option Addr) (x23n : Nat) (x23c : Nat) (x24 : Int) (x25 : Int) (w : World) : Prop :=
  (0 ≤ x25 ∧ x25 < ((x23n : Nat) : Int)) ∧ ∃ (a12 : Addr), x23A = some a12 ∧ ∃ (n13 : Int), w.cell? (a12.add x25.toNat) = some (.int .i64 n13) ∧ span_Of.p7 L0 K x4 x6 n13 x23A x23n x23c x24 x25 w
abbrev span_Of.p11 (K : Value → World → Prop) (x4 : Option Addr) (w : World) : Prop :=
  K (.tuple #[.pointer x4, .int .i64 0]) w
abbrev span_Of.p5 (L0 : Option Addr → Int → Option Addr → Nat → Nat → Int → Int → World → Prop) (K : Value → World → Prop) (x4 : Option Addr) (x6 : Int) (x23A : Option Addr) (x23n : Nat) (x23c : Nat) (x24 : Int) (x25 : Int) (x26 : Bool) (w : World) : Prop :=
  condP x26 (span_Of.p6 L0 K x4 x6 x23A x23n x23c x24 x25 w) (span_Of.p11 K x4 w)
abbrev span_Of.b0 (L0 : Option Addr → Int → Option Addr → Nat → Nat → Int → Int → World → Prop) (K : Value → World → Prop) (x4 : Option Addr) (x6 : Int) (x23A : Option Addr) (x23n : Nat) (x23c : Nat) (x24 : Int) (x25 : Int) (w : World) : Prop :=
  span_Of.p5 L0 K x4 x6 x23A x23n x23c x24 x25 (decide (x25 < x24)) w
def span_Of.l0 (K : Value → World → Prop) (k : Nat) : Option Addr → Int → Option Addr → Nat → Nat → Int → Int → World → Prop :=
  Nat.rec (motive := fun _ => Option Addr → Int → Option Addr → Nat → Nat → Int → Int → World → Prop) (fun _ _ _ _ _ _ _ _ => False) (fun _ ih => span_Of.b0 ih K) k
theorem span_Of.l0_succ (K : Value → World → Prop) (k : Nat) (x4 : Option Addr) (x6 : Int) (x23A : Option Addr) (x23n : Nat) (x23c : Nat) (x24 : Int) (x25 : Int) (w : World) : span_Of.l0 K (k + 1) x4 x6 x23A x23n x23c x24 x25 w = span_Of.b0 (span_Of.l0 K k) K x4 x6 x23A x23n x23c x24 x25 w := rfl
abbrev span_Of.p4 (K : Value → World → Prop) (x4 : Option Addr) (x6 : Int) (x23A : Option Addr) (x23n : Nat) (x23c : Nat) (x24 : Int) (x25 : Int) (w : World) : Prop :=
  ∃ k, span_Of.l0 K k x4 x6 x23A x23n x23c x24 x25 w
abbrev span_Of.p3 (K : Value → World → Prop) (x1 : Addr) (x4 : Option Addr) (x6 : Int) (w : World) : Prop :=
  ∃ (A9 : Option Addr) (m10 : Nat) (c11 : Nat), w.cell? (x1.add 3) = some (.slice A9 m10 c11) ∧ span_Of.p4 K x4 x6 A9 m10 c11 ((m10 : Nat) : Int) 0 w
abbrev span_Of.p2 (K : Value → World → Prop) (x1 : Addr) (x4 : Option Addr) (w : World) : Prop :=
  span_Of.p3 K x1 x4 (-1) w
abbrev span_Of.p1 (K : Value → World → Prop) (x1 : Addr) (x4 : Option Addr) (x5 : Int) (w : World) : Prop :=
  condP (x5 != (0 : Int)) (K (.tuple #[.pointer none, .int .i64 x5]) w) (span_Of.p2 K x1 x4 w)
abbrev span_Of.p0 (K : Value → World → Prop) (x1 : Addr) (w : World) : Prop :=
  ∃ (n2 : Int), w.cell? x1 = some (.int .i64 n2) ∧ ∃ (n3 : Int), w.cell? (x1.add 1) = some (.int .i64 n3) ∧ ∃ (n4 : Int), w.cell? (x1.add 2) = some (.int .i64 n4) ∧ CallsE Tryd.prog 10 #[.int .i64 n2, .int .i64 n3, .int .i64 n4] w (fun v5 w6 => ∃ (p7 : Option Addr) (n8 : Int), v5 = .tuple #[.pointer p7, .int .i64 n8] ∧ span_Of.p1 K x1 p7 n8 w6)
abbrev span_Of.F (q0_0 : Int) (q0_1 : Int) (q0_2 : Int) (q0_3A : Option Addr) (q0_3n : Nat) (q0_3c : Nat) (K : Value → World → Prop) (w : World) : Prop :=
  wlet (w.alloc (.cells #[.int .i64 q0_0, .int .i64 q0_1, .int .i64 q0_2, .slice q0_3A q0_3n q0_3c] 33)) fun w1 => span_Of.p0 K (⟨w.heap.size, 0, none⟩) w1
theorem span_Of.ok {q0_0 : Int} {q0_1 : Int} {q0_2 : Int} {q0_3A : Option Addr} {q0_3n : Nat} {q0_3c : Nat} {K : Value → World → Prop} {w : World} (h : span_Of.F q0_0 q0_1 q0_2 q0_3A q0_3n q0_3c K w) :
    CallsE Tryd.prog 16 #[.agg #[.int .i64 q0_0, .int .i64 q0_1, .int .i64 q0_2, .slice q0_3A q0_3n q0_3c]] w K := by
  refine calls_of_J (n := 45) (rs := [.tmp 2, .tmp 3]) Tryd.func16 rfl rfl rfl rfl ?_
  refine J_seq (fun σ w => vPa (σ 1) fun x1 => span_Of.p0 K x1 w) ?_ ?_
  ·
    exact sh_sound _ _ _ _ (Eq.mp (by kernel_rfl) h)
  · intro σ w h
    obtain ⟨x1, e1, h⟩ := vPa_elim h
    refine J.sub ?_ ((Sub.base _).upd e1)
    clear e1
    refine J_seq (fun σ w => vPa (σ 1) fun x1 => vP (σ 4) fun x4 => vI .i64 (σ 5) fun x5 => span_Of.p1 K x1 x4 x5 w) ?_ ?_
    ·
      exact sh_sound _ _ _ _ (Eq.mp (by kernel_rfl) h)
    · intro σ w h
      obtain ⟨x1, e1, h⟩ := vPa_elim h
      obtain ⟨x4, e4, h⟩ := vP_elim h
      obtain ⟨x5, e5, h⟩ := vI_elim h
      refine J.sub ?_ ((((Sub.base _).upd e1).upd e4).upd e5)
      clear e1 e4 e5
      refine J_seq (fun σ w => vPa (σ 1) fun x1 => vP (σ 4) fun x4 => span_Of.p2 K x1 x4 w) ?_ ?_
      ·
        exact sh_sound _ _ _ _ (Eq.mp (by kernel_rfl) h)
      · intro σ w h
        obtain ⟨x1, e1, h⟩ := vPa_elim h
        obtain ⟨x4, e4, h⟩ := vP_elim h
        refine J.sub ?_ (((Sub.base _).upd e1).upd e4)
        clear e1 e4
        refine J_seq (fun σ w => vPa (σ 1) fun x1 => vP (σ 4) fun x4 => vI .i64 (σ 6) fun x6 => span_Of.p3 K x1 x4 x6 w) ?_ ?_
        ·
          exact sh_sound _ _ _ _ (Eq.mp (by kernel_rfl) h)
        · intro σ w h
          obtain ⟨x1, e1, h⟩ := vPa_elim h
          obtain ⟨x4, e4, h⟩ := vP_elim h
          obtain ⟨x6, e6, h⟩ := vI_elim h
          refine J.sub ?_ ((((Sub.base _).upd e1).upd e4).upd e6)
          clear e1 e4 e6
          refine J_seq (fun σ w => vP (σ 4) fun x4 => span_Of.p11 K x4 w) ?_ ?_
          ·
            refine J_seq (fun σ w => vP (σ 4) fun x4 => vI .i64 (σ 6) fun x6 => vS (σ 23) fun x23A x23n x23c => vI .i64 (σ 24) fun x24 => vI .i64 (σ 25) fun x25 => span_Of.p4 K x4 x6 x23A x23n x23c x24 x25 w) ?_ ?_
            ·
              exact sh_sound _ _ _ _ (Eq.mp (by kernel_rfl) h)
            · intro σ w h
              obtain ⟨x4, e4, h⟩ := vP_elim h
              obtain ⟨x6, e6, h⟩ := vI_elim h
              obtain ⟨x23A, x23n, x23c, e23, h⟩ := vS_elim h
              obtain ⟨x24, e24, h⟩ := vI_elim h
              obtain ⟨x25, e25, h⟩ := vI_elim h
              refine J.sub ?_ ((((((Sub.base _).upd e4).upd e6).upd e23).upd e24).upd e25)
              clear e4 e6 e23 e24 e25
              refine J_block ?_
              refine J_loop (fun k σ w => vP (σ 4) fun x4 => vI .i64 (σ 6) fun x6 => vS (σ 23) fun x23A x23n x23c => vI .i64 (σ 24) fun x24 => vI .i64 (σ 25) fun x25 => span_Of.l0 K k x4 x6 x23A x23n x23c x24 x25 w) (Eq.mp (by kernel_rfl) h) ?_ ?_
              · intro σ w h
                obtain ⟨x4, e4, h⟩ := vP_elim h
                obtain ⟨x6, e6, h⟩ := vI_elim h
                obtain ⟨x23A, x23n, x23c, e23, h⟩ := vS_elim h
                obtain ⟨x24, e24, h⟩ := vI_elim h
                obtain ⟨x25, e25, h⟩ := vI_elim h
                exact h
              · intro k0 σ w h
                obtain ⟨x4, e4, h⟩ := vP_elim h
                obtain ⟨x6, e6, h⟩ := vI_elim h
                obtain ⟨x23A, x23n, x23c, e23, h⟩ := vS_elim h
                obtain ⟨x24, e24, h⟩ := vI_elim h
                obtain ⟨x25, e25, h⟩ := vI_elim h
                refine J.sub ?_ ((((((Sub.base _).upd e4).upd e6).upd e23).upd e24).upd e25)
                clear e4 e6 e23 e24 e25
                refine J_seq (fun σ w => vP (σ 4) fun x4 => vI .i64 (σ 6) fun x6 => vS (σ 23) fun x23A x23n x23c => vI .i64 (σ 24) fun x24 => vI .i64 (σ 25) fun x25 => vB (σ 26) fun x26 => span_Of.p5 (span_Of.l0 K k0) K x4 x6 x23A x23n x23c x24 x25 x26 w) ?_ ?_
                ·
                  exact sh_sound _ _ _ _ (Eq.mp (by kernel_rfl) h)
                · intro σ w h
                  obtain ⟨x4, e4, h⟩ := vP_elim h
                  obtain ⟨x6, e6, h⟩ := vI_elim h
                  obtain ⟨x23A, x23n, x23c, e23, h⟩ := vS_elim h
                  obtain ⟨x24, e24, h⟩ := vI_elim h
                  obtain ⟨x25, e25, h⟩ := vI_elim h
                  obtain ⟨x26, e26, h⟩ := vB_elim h
                  refine J.sub ?_ (((((((Sub.base _).upd e4).upd e6).upd e23).upd e24).upd e25).upd e26)
                  clear e4 e6 e23 e24 e25 e26
                  refine J_seq (fun σ w => vP (σ 4) fun x4 => vI .i64 (σ 6) fun x6 => vS (σ 23) fun x23A x23n x23c => vI .i64 (σ 24) fun x24 => vI .i64 (σ 25) fun x25 => span_Of.p6 (span_Of.l0 K k0) K x4 x6 x23A x23n x23c x24 x25 w) ?_ ?_
                  ·
                    exact sh_sound _ _ _ _ (Eq.mp (by kernel_rfl) h)
                  · intro σ w h
                    obtain ⟨x4, e4, h⟩ := vP_elim h
                    obtain ⟨x6, e6, h⟩ := vI_elim h
                    obtain ⟨x23A, x23n, x23c, e23, h⟩ := vS_elim h
                    obtain ⟨x24, e24, h⟩ := vI_elim h
                    obtain ⟨x25, e25, h⟩ := vI_elim h
                    refine J.sub ?_ ((((((Sub.base _).upd e4).upd e6).upd e23).upd e24).upd e25)
                    clear e4 e6 e23 e24 e25
                    refine J_seq (fun σ w => vP (σ 4) fun x4 => vI .i64 (σ 6) fun x6 => vS (σ 23) fun x23A x23n x23c => vI .i64 (σ 24) fun x24 => vI .i64 (σ 25) fun x25 => span_Of.p10 (span_Of.l0 K k0) K x4 x6 x23A x23n x23c x24 x25 w) ?_ ?_
                    ·
                      refine J_block ?_
                      refine J_seq (fun σ w => vP (σ 4) fun x4 => vI .i64 (σ 6) fun x6 => vI .i64 (σ 8) fun x8 => vS (σ 23) fun x23A x23n x23c => vI .i64 (σ 24) fun x24 => vI .i64 (σ 25) fun x25 => span_Of.p7 (span_Of.l0 K k0) K x4 x6 x8 x23A x23n x23c x24 x25 w) ?_ ?_
                      ·
                        exact sh_sound _ _ _ _ (Eq.mp (by kernel_rfl) h)
                      · intro σ w h
                        obtain ⟨x4, e4, h⟩ := vP_elim h
                        obtain ⟨x6, e6, h⟩ := vI_elim h
                        obtain ⟨x8, e8, h⟩ := vI_elim h
                        obtain ⟨x23A, x23n, x23c, e23, h⟩ := vS_elim h
                        obtain ⟨x24, e24, h⟩ := vI_elim h
                        obtain ⟨x25, e25, h⟩ := vI_elim h
                        refine J.sub ?_ (((((((Sub.base _).upd e4).upd e6).upd e8).upd e23).upd e24).upd e25)
                        clear e4 e6 e8 e23 e24 e25
                        refine J_seq (fun σ w => vP (σ 4) fun x4 => vI .i64 (σ 8) fun x8 => vS (σ 23) fun x23A x23n x23c => vI .i64 (σ 24) fun x24 => vI .i64 (σ 25) fun x25 => span_Of.p9 (span_Of.l0 K k0) K x4 x8 x23A x23n x23c x24 x25 w) ?_ ?_
                        ·
                          refine J_seq (fun σ w => vP (σ 4) fun x4 => vI .i64 (σ 8) fun x8 => vS (σ 23) fun x23A x23n x23c => vI .i64 (σ 24) fun x24 => vI .i64 (σ 25) fun x25 => vB (σ 41) fun x41 => span_Of.p8 (span_Of.l0 K k0) K x4 x8 x23A x23n x23c x24 x25 x41 w) ?_ ?_
                          ·
                            exact sh_sound _ _ _ _ (Eq.mp (by kernel_rfl) h)
                          · intro σ w h
                            obtain ⟨x4, e4, h⟩ := vP_elim h
                            obtain ⟨x8, e8, h⟩ := vI_elim h
                            obtain ⟨x23A, x23n, x23c, e23, h⟩ := vS_elim h
                            obtain ⟨x24, e24, h⟩ := vI_elim h
                            obtain ⟨x25, e25, h⟩ := vI_elim h
                            obtain ⟨x41, e41, h⟩ := vB_elim h
                            refine J.sub ?_ (((((((Sub.base _).upd e4).upd e8).upd e23).upd e24).upd e25).upd e41)
                            clear e4 e8 e23 e24 e25 e41
                            exact sh_sound _ _ _ _ (Eq.mp (by kernel_rfl) h)
                        · intro σ w h
                          obtain ⟨x4, e4, h⟩ := vP_elim h
                          obtain ⟨x8, e8, h⟩ := vI_elim h
                          obtain ⟨x23A, x23n, x23c, e23, h⟩ := vS_elim h
                          obtain ⟨x24, e24, h⟩ := vI_elim h
                          obtain ⟨x25, e25, h⟩ := vI_elim h
                          refine J.sub ?_ ((((((Sub.base _).upd e4).upd e8).upd e23).upd e24).upd e25)
                          clear e4 e8 e23 e24 e25
                          exact sh_sound _ _ _ _ (Eq.mp (by kernel_rfl) h)
                    · intro σ w h
                      obtain ⟨x4, e4, h⟩ := vP_elim h
                      obtain ⟨x6, e6, h⟩ := vI_elim h
                      obtain ⟨x23A, x23n, x23c, e23, h⟩ := vS_elim h
                      obtain ⟨x24, e24, h⟩ := vI_elim h
                      obtain ⟨x25, e25, h⟩ := vI_elim h
                      refine J.sub ?_ ((((((Sub.base _).upd e4).upd e6).upd e23).upd e24).upd e25)
                      clear e4 e6 e23 e24 e25
                      exact sh_sound _ _ _ _ (Eq.mp (by kernel_rfl) h)
          · intro σ w h
            obtain ⟨x4, e4, h⟩ := vP_elim h
            refine J.sub ?_ ((Sub.base _).upd e4)
            clear e4
            exact sh_sound _ _ _ _ (Eq.mp (by kernel_rfl) h)

/-! ### hayloft/hayloftref01.Ints: function 17 -/
abbrev ref01_Ints.p3 (K : Value → World → Prop) (w : World) : Prop :=
  K (.bool true) w
abbrev ref01_Ints.b0 (L0 : Option Addr → Nat → Nat → Option Addr → Nat → Nat → Int → Int → World → Prop) (K : Value → World → Prop) (x0A : Option Addr) (x0n : Nat) (x0c : Nat) (x1A : Option Addr) (x1n : Nat) (x1c : Nat) (x12 : Int) (x13 : Int) (w : World) : Prop :=
  condP (decide (x13 < x12)) ((0 ≤ x13 ∧ x13 < ((x0n : Nat) : Int)) ∧ ∃ (a1 : Addr), x0A = some a1 ∧ ∃ (n2 : Int), w.cell? (a1.add x13.toNat) = some (.int .i64 n2) ∧ (0 ≤ x13 ∧ x13 < ((x1n : Nat) : Int)) ∧ ∃ (a3 : Addr), x1A = some a3 ∧ ∃ (n4 : Int), w.cell? (a3.add x13.toNat) = some (.int .i64 n4) ∧ condP (n2 != n4) (K (.bool false) w) (L0 x0A x0n x0c x1A x1n x1c x12 (IntKind.wrap .i64 (x13 + (1 : Int))) w)) (ref01_Ints.p3 K w)
def ref01_Ints.l0 (K : Value → World → Prop) (k : Nat) : Option Addr → Nat → Nat → Option Addr → Nat → Nat → Int → Int → World → Prop :=
  Nat.rec (motive := fun _ => Option Addr → Nat → Nat → Option Addr → Nat → Nat → Int → Int → World → Prop) (fun _ _ _ _ _ _ _ _ _ => False) (fun _ ih => ref01_Ints.b0 ih K) k
theorem ref01_Ints.l0_succ (K : Value → World → Prop) (k : Nat) (x0A : Option Addr) (x0n : Nat) (x0c : Nat) (x1A : Option Addr) (x1n : Nat) (x1c : Nat) (x12 : Int) (x13 : Int) (w : World) : ref01_Ints.l0 K (k + 1) x0A x0n x0c x1A x1n x1c x12 x13 w = ref01_Ints.b0 (ref01_Ints.l0 K k) K x0A x0n x0c x1A x1n x1c x12 x13 w := rfl
abbrev ref01_Ints.p2 (K : Value → World → Prop) (x0A : Option Addr) (x0n : Nat) (x0c : Nat) (x1A : Option Addr) (x1n : Nat) (x1c : Nat) (x12 : Int) (x13 : Int) (w : World) : Prop :=
  ∃ k, ref01_Ints.l0 K k x0A x0n x0c x1A x1n x1c x12 x13 w
abbrev ref01_Ints.p1 (K : Value → World → Prop) (x0A : Option Addr) (x0n : Nat) (x0c : Nat) (x1A : Option Addr) (x1n : Nat) (x1c : Nat) (w : World) : Prop :=
  ref01_Ints.p2 K x0A x0n x0c x1A x1n x1c ((x0n : Nat) : Int) 0 w
abbrev ref01_Ints.p0 (K : Value → World → Prop) (x0A : Option Addr) (x0n : Nat) (x0c : Nat) (x1A : Option Addr) (x1n : Nat) (x1c : Nat) (w : World) : Prop :=
  condP (((x0n : Nat) : Int) != ((x1n : Nat) : Int)) (K (.bool false) w) (ref01_Ints.p1 K x0A x0n x0c x1A x1n x1c w)
abbrev ref01_Ints.F (q0A : Option Addr) (q0n : Nat) (q0c : Nat) (q1A : Option Addr) (q1n : Nat) (q1c : Nat) (K : Value → World → Prop) (w : World) : Prop :=
  ref01_Ints.p0 K q0A q0n q0c q1A q1n q1c w
theorem ref01_Ints.ok {q0A : Option Addr} {q0n : Nat} {q0c : Nat} {q1A : Option Addr} {q1n : Nat} {q1c : Nat} {K : Value → World → Prop} {w : World} (h : ref01_Ints.F q0A q0n q0c q1A q1n q1c K w) :
    CallsE Tryd.prog 17 #[.slice q0A q0n q0c, .slice q1A q1n q1c] w K := by
  refine calls_of_J (n := 26) (rs := [.tmp 4]) Tryd.func17 rfl rfl rfl rfl ?_
  refine J_seq (fun σ w => vS (σ 0) fun x0A x0n x0c => vS (σ 1) fun x1A x1n x1c => ref01_Ints.p0 K x0A x0n x0c x1A x1n x1c w) ?_ ?_
  ·
    exact sh_sound _ _ _ _ (Eq.mp (by kernel_rfl) h)
  · intro σ w h
    obtain ⟨x0A, x0n, x0c, e0, h⟩ := vS_elim h
    obtain ⟨x1A, x1n, x1c, e1, h⟩ := vS_elim h
    refine J.sub ?_ (((Sub.base _).upd e0).upd e1)
    clear e0 e1
    refine J_seq (fun σ w => vS (σ 0) fun x0A x0n x0c => vS (σ 1) fun x1A x1n x1c => ref01_Ints.p1 K x0A x0n x0c x1A x1n x1c w) ?_ ?_
    ·
      exact sh_sound _ _ _ _ (Eq.mp (by kernel_rfl) h)
    · intro σ w h
      obtain ⟨x0A, x0n, x0c, e0, h⟩ := vS_elim h
      obtain ⟨x1A, x1n, x1c, e1, h⟩ := vS_elim h
      refine J.sub ?_ (((Sub.base _).upd e0).upd e1)
      clear e0 e1
      refine J_seq (fun σ w => ref01_Ints.p3 K w) ?_ ?_
      ·
        refine J_seq (fun σ w => vS (σ 0) fun x0A x0n x0c => vS (σ 1) fun x1A x1n x1c => vI .i64 (σ 12) fun x12 => vI .i64 (σ 13) fun x13 => ref01_Ints.p2 K x0A x0n x0c x1A x1n x1c x12 x13 w) ?_ ?_
        ·
          exact sh_sound _ _ _ _ (Eq.mp (by kernel_rfl) h)
        · intro σ w h
          obtain ⟨x0A, x0n, x0c, e0, h⟩ := vS_elim h
          obtain ⟨x1A, x1n, x1c, e1, h⟩ := vS_elim h
          obtain ⟨x12, e12, h⟩ := vI_elim h
          obtain ⟨x13, e13, h⟩ := vI_elim h
          refine J.sub ?_ (((((Sub.base _).upd e0).upd e1).upd e12).upd e13)
          clear e0 e1 e12 e13
          refine J_block ?_
          refine J_loop (fun k σ w => vS (σ 0) fun x0A x0n x0c => vS (σ 1) fun x1A x1n x1c => vI .i64 (σ 12) fun x12 => vI .i64 (σ 13) fun x13 => ref01_Ints.l0 K k x0A x0n x0c x1A x1n x1c x12 x13 w) (Eq.mp (by kernel_rfl) h) ?_ ?_
          · intro σ w h
            obtain ⟨x0A, x0n, x0c, e0, h⟩ := vS_elim h
            obtain ⟨x1A, x1n, x1c, e1, h⟩ := vS_elim h
            obtain ⟨x12, e12, h⟩ := vI_elim h
            obtain ⟨x13, e13, h⟩ := vI_elim h
            exact h
          · intro k0 σ w h
            obtain ⟨x0A, x0n, x0c, e0, h⟩ := vS_elim h
            obtain ⟨x1A, x1n, x1c, e1, h⟩ := vS_elim h
            obtain ⟨x12, e12, h⟩ := vI_elim h
            obtain ⟨x13, e13, h⟩ := vI_elim h
            refine J.sub ?_ (((((Sub.base _).upd e0).upd e1).upd e12).upd e13)
            clear e0 e1 e12 e13
            exact sh_sound _ _ _ _ (Eq.mp (by kernel_rfl) h)
      · intro σ w h
        refine J.sub ?_ (Sub.base _)
        exact sh_sound _ _ _ _ (Eq.mp (by kernel_rfl) h)

/-! ### hayloft/hayloftref10.Same: function 18 -/
abbrev ref10_Same.p1 (K : Value → World → Prop) (x4 : Bool) (w : World) : Prop :=
  K (.bool x4) w
abbrev ref10_Same.p0 (K : Value → World → Prop) (x2 : Addr) (x3 : Addr) (w : World) : Prop :=
  ∃ (n3 : Int), w.cell? x2 = some (.int .i64 n3) ∧ ∃ (n4 : Int), w.cell? x3 = some (.int .i64 n4) ∧ condP (n3 == n4) (∃ (n5 : Int), w.cell? (x2.add 1) = some (.int .i64 n5) ∧ ∃ (n6 : Int), w.cell? (x3.add 1) = some (.int .i64 n6) ∧ condP (n5 == n6) (∃ (n7 : Int), w.cell? (x2.add 2) = some (.int .i64 n7) ∧ ∃ (n8 : Int), w.cell? (x3.add 2) = some (.int .i64 n8) ∧ condP (n7 == n8) (∃ (A9 : Option Addr) (m10 : Nat) (c11 : Nat), w.cell? (x2.add 3) = some (.slice A9 m10 c11) ∧ ∃ (A12 : Option Addr) (m13 : Nat) (c14 : Nat), w.cell? (x3.add 3) = some (.slice A12 m13 c14) ∧ CallsE Tryd.prog 17 #[.slice A9 m10 c11, .slice A12 m13 c14] w (fun v15 w16 => ∃ (b17 : Bool), v15 = .bool b17 ∧ ref10_Same.p1 K b17 w16)) (ref10_Same.p1 K false w)) (ref10_Same.p1 K false w)) (ref10_Same.p1 K false w)
abbrev ref10_Same.F (q0_0 : Int) (q0_1 : Int) (q0_2 : Int) (q0_3A : Option Addr) (q0_3n : Nat) (q0_3c : Nat) (q1_0 : Int) (q1_1 : Int) (q1_2 : Int) (q1_3A : Option Addr) (q1_3n : Nat) (q1_3c : Nat) (K : Value → World → Prop) (w : World) : Prop :=
  wlet (w.alloc (.cells #[.int .i64 q0_0, .int .i64 q0_1, .int .i64 q0_2, .slice q0_3A q0_3n q0_3c] 33)) fun w1 => wlet (w1.alloc (.cells #[.int .i64 q1_0, .int .i64 q1_1, .int .i64 q1_2, .slice q1_3A q1_3n q1_3c] 33)) fun w2 => ref10_Same.p0 K (⟨w.heap.size, 0, none⟩) (⟨w1.heap.size, 0, none⟩) w2
theorem ref10_Same.ok {q0_0 : Int} {q0_1 : Int} {q0_2 : Int} {q0_3A : Option Addr} {q0_3n : Nat} {q0_3c : Nat} {q1_0 : Int} {q1_1 : Int} {q1_2 : Int} {q1_3A : Option Addr} {q1_3n : Nat} {q1_3c : Nat} {K : Value → World → Prop} {w : World} (h : ref10_Same.F q0_0 q0_1 q0_2 q0_3A q0_3n q0_3c q1_0 q1_1 q1_2 q1_3A q1_3n q1_3c K w) :
    CallsE Tryd.prog 18 #[.agg #[.int .i64 q0_0, .int .i64 q0_1, .int .i64 q0_2, .slice q0_3A q0_3n q0_3c], .agg #[.int .i64 q1_0, .int .i64 q1_1, .int .i64 q1_2, .slice q1_3A q1_3n q1_3c]] w K := by
  refine calls_of_J (n := 31) (rs := [.tmp 4]) Tryd.func18 rfl rfl rfl rfl ?_
  refine J_seq (fun σ w => vPa (σ 2) fun x2 => vPa (σ 3) fun x3 => ref10_Same.p0 K x2 x3 w) ?_ ?_
  ·
    exact sh_sound _ _ _ _ (Eq.mp (by kernel_rfl) h)
  · intro σ w h
    obtain ⟨x2, e2, h⟩ := vPa_elim h
    obtain ⟨x3, e3, h⟩ := vPa_elim h
    refine J.sub ?_ (((Sub.base _).upd e2).upd e3)
    clear e2 e3
    refine J_seq (fun σ w => vB (σ 4) fun x4 => ref10_Same.p1 K x4 w) ?_ ?_
    ·
      exact sh_sound _ _ _ _ (Eq.mp (by kernel_rfl) h)
    · intro σ w h
      obtain ⟨x4, e4, h⟩ := vB_elim h
      refine J.sub ?_ ((Sub.base _).upd e4)
      clear e4
      exact sh_sound _ _ _ _ (Eq.mp (by kernel_rfl) h)

/-! ### (*hayloft/span.Span).Data: function 19 -/
abbrev span_Span_Data.p3 (K : Value → World → Prop) (x2 : Addr) (x3 : Addr) (w : World) : Prop :=
  ∃ (n34 : Int), w.cell? x3 = some (.int .i64 n34) ∧ ∃ (n35 : Int), w.cell? (x3.add 1) = some (.int .i64 n35) ∧ ∃ (n36 : Int), w.cell? (x3.add 2) = some (.int .i64 n36) ∧ ∃ (A37 : Option Addr) (m38 : Nat) (c39 : Nat), w.cell? (x3.add 3) = some (.slice A37 m38 c39) ∧ canStore w x2 ∧ wlet (w.setCell x2 (.int .i64 n34)) fun w40 => canStore w40 (x2.add 1) ∧ wlet (w40.setCell (x2.add 1) (.int .i64 n35)) fun w41 => canStore w41 (x2.add 2) ∧ wlet (w41.setCell (x2.add 2) (.int .i64 n36)) fun w42 => canStore w42 (x2.add 3) ∧ wlet (w42.setCell (x2.add 3) (.slice A37 m38 c39)) fun w43 => ∃ (n44 : Int), w43.cell? x2 = some (.int .i64 n44) ∧ ∃ (n45 : Int), w43.cell? (x2.add 1) = some (.int .i64 n45) ∧ ∃ (n46 : Int), w43.cell? (x2.add 2) = some (.int .i64 n46) ∧ ∃ (A47 : Option Addr) (m48 : Nat) (c49 : Nat), w43.cell? (x2.add 3) = some (.slice A47 m48 c49) ∧ K (.agg #[.int .i64 n44, .int .i64 n45, .int .i64 n46, .slice A47 m48 c49]) w43
abbrev span_Span_Data.p2 (K : Value → World → Prop) (x0 : Option Addr) (x2 : Addr) (x3 : Addr) (w : World) : Prop :=
  ∃ (a29 : Addr), x0 = some a29 ∧ ∃ (n30 : Int), w.cell? (a29.add 3) = some (.int .i64 n30) ∧ condP (n30 == (7 : Int)) (∃ (a31 : Addr), x0 = some a31 ∧ ∃ (n32 : Int), w.cell? (a31.add 4) = some (.int .i64 n32) ∧ canStore w (x3.add 2) ∧ wlet (w.setCell (x3.add 2) (.int .i64 n32)) fun w33 => span_Span_Data.p3 K x2 x3 w33) (span_Span_Data.p3 K x2 x3 w)
abbrev span_Span_Data.p1 (K : Value → World → Prop) (x0 : Option Addr) (x2 : Addr) (w : World) : Prop :=
  ∃ (S12 : Array Obj → Prop), S12 w.heap ∧ ∃ (a13 : Addr), x0 = some a13 ∧ ∃ (a14 : Addr), x0 = some a14 ∧ ∃ (a15 : Addr), x0 = some a15 ∧ ∃ (n16 : Int), (∀ w' : World, S12 w'.heap → w'.cell? (a13.add 1) = some (.int .i64 n16)) ∧ ∃ (n17 : Int), (∀ w' : World, S12 w'.heap → w'.cell? (a14.add 3) = some (.int .i64 n17)) ∧ ∃ (p18 : Option Addr), (∀ w' : World, S12 w'.heap → w'.cell? a15 = some (.pointer p18)) ∧ (CallsE Tryd.prog 40 #[.pointer p18] w (fun v19 w20 => ∃ (A21 : Option Addr) (m22 : Nat) (c23 : Nat), v19 = .slice A21 m22 c23 ∧ S12 w20.heap ∧ (S12 w20.heap ∧ wlet (w20.alloc (.cells #[.int .i64 0, .int .i64 0, .int .i64 0, .slice none 0 0] 33)) fun w24 => S12 w24.heap ∧ canStore w24 (⟨w20.heap.size, 0, none⟩) ∧ wlet (w24.setCell (⟨w20.heap.size, 0, none⟩) (.int .i64 n16)) fun w25 => canStore w25 (⟨w20.heap.size, 1, none⟩) ∧ wlet (w25.setCell (⟨w20.heap.size, 1, none⟩) (.int .i64 n17)) fun w26 => canStore w26 (⟨w20.heap.size, 2, none⟩) ∧ wlet (w26.setCell (⟨w20.heap.size, 2, none⟩) (.int .i64 0)) fun w27 => canStore w27 (⟨w20.heap.size, 3, none⟩) ∧ wlet (w27.setCell (⟨w20.heap.size, 3, none⟩) (.slice A21 m22 c23)) fun w28 => span_Span_Data.p2 K x0 x2 (⟨w20.heap.size, 0, none⟩) w28) ∧ (wlet (w20.alloc (.cells #[.int .i64 0, .int .i64 0, .int .i64 0, .slice none 0 0] 33)) fun w50 => S12 w50.heap ∧ S12 w50.heap ∧ canStore w50 (⟨w20.heap.size, 0, none⟩) ∧ wlet (w50.setCell (⟨w20.heap.size, 0, none⟩) (.int .i64 n16)) fun w51 => canStore w51 (⟨w20.heap.size, 1, none⟩) ∧ wlet (w51.setCell (⟨w20.heap.size, 1, none⟩) (.int .i64 n17)) fun w52 => canStore w52 (⟨w20.heap.size, 2, none⟩) ∧ wlet (w52.setCell (⟨w20.heap.size, 2, none⟩) (.int .i64 0)) fun w53 => canStore w53 (⟨w20.heap.size, 3, none⟩) ∧ wlet (w53.setCell (⟨w20.heap.size, 3, none⟩) (.slice A21 m22 c23)) fun w54 => span_Span_Data.p2 K x0 x2 (⟨w20.heap.size, 0, none⟩) w54))) ∧ (wlet (w.alloc (.cells #[.int .i64 0, .int .i64 0, .int .i64 0, .slice none 0 0] 33)) fun w55 => S12 w55.heap ∧ CallsE Tryd.prog 40 #[.pointer p18] w55 (fun v56 w57 => ∃ (A58 : Option Addr) (m59 : Nat) (c60 : Nat), v56 = .slice A58 m59 c60 ∧ S12 w57.heap ∧ S12 w57.heap ∧ canStore w57 (⟨w.heap.size, 0, none⟩) ∧ wlet (w57.setCell (⟨w.heap.size, 0, none⟩) (.int .i64 n16)) fun w61 => canStore w61 (⟨w.heap.size, 1, none⟩) ∧ wlet (w61.setCell (⟨w.heap.size, 1, none⟩) (.int .i64 n17)) fun w62 => canStore w62 (⟨w.heap.size, 2, none⟩) ∧ wlet (w62.setCell (⟨w.heap.size, 2, none⟩) (.int .i64 0)) fun w63 => canStore w63 (⟨w.heap.size, 3, none⟩) ∧ wlet (w63.setCell (⟨w.heap.size, 3, none⟩) (.slice A58 m59 c60)) fun w64 => span_Span_Data.p2 K x0 x2 (⟨w.heap.size, 0, none⟩) w64))
abbrev span_Span_Data.p0 (K : Value → World → Prop) (x0 : Option Addr) (x2 : Addr) (w : World) : Prop :=
  condP x0.isNone (canStore w x2 ∧ wlet (w.setCell x2 (.int .i64 0)) fun w2 => canStore w2 (x2.add 1) ∧ wlet (w2.setCell (x2.add 1) (.int .i64 0)) fun w3 => canStore w3 (x2.add 2) ∧ wlet (w3.setCell (x2.add 2) (.int .i64 0)) fun w4 => canStore w4 (x2.add 3) ∧ wlet (w4.setCell (x2.add 3) (.slice none 0 0)) fun w5 => ∃ (n6 : Int), w5.cell? x2 = some (.int .i64 n6) ∧ ∃ (n7 : Int), w5.cell? (x2.add 1) = some (.int .i64 n7) ∧ ∃ (n8 : Int), w5.cell? (x2.add 2) = some (.int .i64 n8) ∧ ∃ (A9 : Option Addr) (m10 : Nat) (c11 : Nat), w5.cell? (x2.add 3) = some (.slice A9 m10 c11) ∧ K (.agg #[.int .i64 n6, .int .i64 n7, .int .i64 n8, .slice A9 m10 c11]) w5) (span_Span_Data.p1 K x0 x2 w)
abbrev span_Span_Data.F (q0 : Option Addr) (K : Value → World → Prop) (w : World) : Prop :=
  wlet (w.alloc (.cells #[.int .i64 0, .int .i64 0, .int .i64 0, .slice none 0 0] 33)) fun w1 => span_Span_Data.p0 K q0 (⟨w.heap.size, 0, none⟩) w1
theorem span_Span_Data.ok {q0 : Option Addr} {K : Value → World → Prop} {w : World} (h : span_Span_Data.F q0 K w) :
    CallsE Tryd.prog 19 #[.pointer q0] w K := by
  refine calls_of_J (n := 33) (rs := [.cell 2 33]) Tryd.func19 rfl rfl rfl rfl ?_
  refine J_seq (fun σ w => vP (σ 0) fun x0 => vPa (σ 2) fun x2 => span_Span_Data.p0 K x0 x2 w) ?_ ?_
  ·
    exact sh_sound _ _ _ _ (Eq.mp (by kernel_rfl) h)
  · intro σ w h
    obtain ⟨x0, e0, h⟩ := vP_elim h
    obtain ⟨x2, e2, h⟩ := vPa_elim h
    refine J.sub ?_ (((Sub.base _).upd e0).upd e2)
    clear e0 e2
    refine J_seq (fun σ w => vP (σ 0) fun x0 => vPa (σ 2) fun x2 => span_Span_Data.p1 K x0 x2 w) ?_ ?_
    ·
      exact sh_sound _ _ _ _ (Eq.mp (by kernel_rfl) h)
    · intro σ w h
      obtain ⟨x0, e0, h⟩ := vP_elim h
      obtain ⟨x2, e2, h⟩ := vPa_elim h
      refine J.sub ?_ (((Sub.base _).upd e0).upd e2)
      clear e0 e2
      refine J_seq (fun σ w => vP (σ 0) fun x0 => vPa (σ 2) fun x2 => vPa (σ 3) fun x3 => span_Span_Data.p2 K x0 x2 x3 w) ?_ ?_
      ·
        exact J_heldT [16] (.step 0 0 (.step 1 0 (.step 2 0 (.step 4 0 (.step 5 0 (.step 6 0 (.step 8 0 (.step 9 0 (.step 10 0 (.step 11 0 (.step 3 1 (.step 7 1 (.step 12 1 (.fork 13 (.fork 14 (.step 15 2 (.step 16 3 .done)) 15 (.step 14 2 (.step 16 3 .done))) 15 (.step 13 2 (.step 14 2 (.step 16 3 .done))))))))))))))))) (by kernel_rfl) (Eq.mp (by kernel_rfl) h)
      · intro σ w h
        obtain ⟨x0, e0, h⟩ := vP_elim h
        obtain ⟨x2, e2, h⟩ := vPa_elim h
        obtain ⟨x3, e3, h⟩ := vPa_elim h
        refine J.sub ?_ ((((Sub.base _).upd e0).upd e2).upd e3)
        clear e0 e2 e3
        refine J_seq (fun σ w => vPa (σ 2) fun x2 => vPa (σ 3) fun x3 => span_Span_Data.p3 K x2 x3 w) ?_ ?_
        ·
          exact sh_sound _ _ _ _ (Eq.mp (by kernel_rfl) h)
        · intro σ w h
          obtain ⟨x2, e2, h⟩ := vPa_elim h
          obtain ⟨x3, e3, h⟩ := vPa_elim h
          refine J.sub ?_ (((Sub.base _).upd e2).upd e3)
          clear e2 e3
          exact sh_sound _ _ _ _ (Eq.mp (by kernel_rfl) h)

/-! ### (*hayloft/span.Span).Take: function 20 -/
abbrev span_Span_Take.F (q0 : Option Addr) (K : Value → World → Prop) (w : World) : Prop :=
  condP q0.isNone (K (.tuple #[.int .i64 0, .bool false]) w) (∃ (a1 : Addr), q0 = some a1 ∧ ∃ (p2 : Option Addr), w.cell? a1 = some (.pointer p2) ∧ CallsE Tryd.prog 41 #[.pointer p2, .int .i64 0] w (fun v3 w4 => ∃ (n5 : Int), v3 = .int .i64 n5 ∧ condP (decide (n5 < (0 : Int))) (K (.tuple #[.int .i64 0, .bool false]) w4) (∃ (a6 : Addr), q0 = some a6 ∧ ∃ (p7 : Option Addr), w4.cell? a6 = some (.pointer p7) ∧ CallsE Tryd.prog 39 #[.pointer p7, .int .i64 n5] w4 (fun v8 w9 => ∃ (b10 : Bool), v8 = .bool b10 ∧ K (.tuple #[.int .i64 n5, .bool b10]) w9))))
theorem span_Span_Take.ok {q0 : Option Addr} {K : Value → World → Prop} {w : World} (h : span_Span_Take.F q0 K w) :
    CallsE Tryd.prog 20 #[.pointer q0] w K := by
  refine calls_of_J (n := 23) (rs := [.tmp 2, .tmp 3]) Tryd.func20 rfl rfl rfl rfl ?_
  exact sh_sound _ _ _ _ (Eq.mp (by kernel_rfl) h)

/-! ### (*hayloft/span.Span).Give: function 21 -/
abbrev span_Span_Give.p1 (K : Value → World → Prop) (x4 : Bool) (w : World) : Prop :=
  K (.bool x4) w
abbrev span_Span_Give.p0 (K : Value → World → Prop) (x0 : Option Addr) (x1 : Int) (w : World) : Prop :=
  condP (!x0.isNone) (∃ (a1 : Addr), x0 = some a1 ∧ ∃ (p2 : Option Addr), w.cell? a1 = some (.pointer p2) ∧ CallsE Tryd.prog 42 #[.pointer p2, .int .i64 x1] w (fun v3 w4 => ∃ (b5 : Bool), v3 = .bool b5 ∧ span_Span_Give.p1 K b5 w4)) (span_Span_Give.p1 K false w)
abbrev span_Span_Give.F (q0 : Option Addr) (q1 : Int) (K : Value → World → Prop) (w : World) : Prop :=
  span_Span_Give.p0 K q0 q1 w
theorem span_Span_Give.ok {q0 : Option Addr} {q1 : Int} {K : Value → World → Prop} {w : World} (h : span_Span_Give.F q0 q1 K w) :
    CallsE Tryd.prog 21 #[.pointer q0, .int .i64 q1] w K := by
  refine calls_of_J (n := 16) (rs := [.tmp 4]) Tryd.func21 rfl rfl rfl rfl ?_
  refine J_seq (fun σ w => vP (σ 0) fun x0 => vI .i64 (σ 1) fun x1 => span_Span_Give.p0 K x0 x1 w) ?_ ?_
  ·
    exact sh_sound _ _ _ _ (Eq.mp (by kernel_rfl) h)
  · intro σ w h
    obtain ⟨x0, e0, h⟩ := vP_elim h
    obtain ⟨x1, e1, h⟩ := vI_elim h
    refine J.sub ?_ (((Sub.base _).upd e0).upd e1)
    clear e0 e1
    refine J_seq (fun σ w => vB (σ 4) fun x4 => span_Span_Give.p1 K x4 w) ?_ ?_
    ·
      exact sh_sound _ _ _ _ (Eq.mp (by kernel_rfl) h)
    · intro σ w h
      obtain ⟨x4, e4, h⟩ := vB_elim h
      refine J.sub ?_ ((Sub.base _).upd e4)
      clear e4
      exact sh_sound _ _ _ _ (Eq.mp (by kernel_rfl) h)

/-! ### (*hayloft/span.Span).Live: function 22 -/
abbrev span_Span_Live.F (q0 : Option Addr) (K : Value → World → Prop) (w : World) : Prop :=
  condP q0.isNone (K (.int .i64 0) w) (∃ (a1 : Addr), q0 = some a1 ∧ ∃ (p2 : Option Addr), w.cell? a1 = some (.pointer p2) ∧ CallsE Tryd.prog 43 #[.agg #[.pointer p2]] w (fun v3 w4 => ∃ (n5 : Int), v3 = .int .i64 n5 ∧ K (.int .i64 n5) w4))
theorem span_Span_Live.ok {q0 : Option Addr} {K : Value → World → Prop} {w : World} (h : span_Span_Live.F q0 K w) :
    CallsE Tryd.prog 22 #[.pointer q0] w K := by
  refine calls_of_J (n := 10) (rs := [.tmp 2]) Tryd.func22 rfl rfl rfl rfl ?_
  exact sh_sound _ _ _ _ (Eq.mp (by kernel_rfl) h)

/-! ### (*hayloft/span.Span).Has: function 23 -/
abbrev span_Span_Has.p1 (K : Value → World → Prop) (x4 : Bool) (w : World) : Prop :=
  K (.bool x4) w
abbrev span_Span_Has.p0 (K : Value → World → Prop) (x0 : Option Addr) (x1 : Int) (w : World) : Prop :=
  condP (!x0.isNone) (∃ (a1 : Addr), x0 = some a1 ∧ ∃ (p2 : Option Addr), w.cell? a1 = some (.pointer p2) ∧ CallsE Tryd.prog 44 #[.agg #[.pointer p2], .int .i64 x1] w (fun v3 w4 => ∃ (b5 : Bool), v3 = .bool b5 ∧ span_Span_Has.p1 K b5 w4)) (span_Span_Has.p1 K false w)
abbrev span_Span_Has.F (q0 : Option Addr) (q1 : Int) (K : Value → World → Prop) (w : World) : Prop :=
  span_Span_Has.p0 K q0 q1 w
theorem span_Span_Has.ok {q0 : Option Addr} {q1 : Int} {K : Value → World → Prop} {w : World} (h : span_Span_Has.F q0 q1 K w) :
    CallsE Tryd.prog 23 #[.pointer q0, .int .i64 q1] w K := by
  refine calls_of_J (n := 15) (rs := [.tmp 4]) Tryd.func23 rfl rfl rfl rfl ?_
  refine J_seq (fun σ w => vP (σ 0) fun x0 => vI .i64 (σ 1) fun x1 => span_Span_Has.p0 K x0 x1 w) ?_ ?_
  ·
    exact sh_sound _ _ _ _ (Eq.mp (by kernel_rfl) h)
  · intro σ w h
    obtain ⟨x0, e0, h⟩ := vP_elim h
    obtain ⟨x1, e1, h⟩ := vI_elim h
    refine J.sub ?_ (((Sub.base _).upd e0).upd e1)
    clear e0 e1
    refine J_seq (fun σ w => vB (σ 4) fun x4 => span_Span_Has.p1 K x4 w) ?_ ?_
    ·
      exact sh_sound _ _ _ _ (Eq.mp (by kernel_rfl) h)
    · intro σ w h
      obtain ⟨x4, e4, h⟩ := vB_elim h
      refine J.sub ?_ ((Sub.base _).upd e4)
      clear e4
      exact sh_sound _ _ _ _ (Eq.mp (by kernel_rfl) h)

/-! ### hayloft/hayloftref10.New: function 24 -/
abbrev ref10_New.p6 (K : Value → World → Prop) (x0 : Int) (x1 : Int) (x2 : Int) (w : World) : Prop :=
  CallsE Tryd.prog 46 #[.int .i64 x1] w (fun v1 w2 => ∃ (n3 : Int), v1 = .int .i64 n3 ∧ (0 ≤ n3 ∧ n3 ≤ n3 ∧ (1 : Int) * n3 ≤ 281474976710656 ∧ n3 ≤ 9223372036854775807) ∧ wlet (w2.alloc (.cells (madeCells #[.bool false] (n3.toNat * 1)) 4)) fun w4 => wlet (w4.alloc (.cells #[.int .i64 x0, .int .i64 x1, .int .i64 x2, .slice (some ⟨w2.heap.size, 0, none⟩) n3.toNat n3.toNat] 52)) fun w5 => K (.tuple #[.pointer (some (⟨w4.heap.size, 0, none⟩)), .int .i64 0]) w5)
abbrev ref10_New.p5 (K : Value → World → Prop) (x0 : Int) (x1 : Int) (x2 : Int) (x38 : Bool) (w : World) : Prop :=
  condP x38 (K (.tuple #[.pointer none, .int .i64 10]) w) (ref10_New.p6 K x0 x1 x2 w)
abbrev ref10_New.p4 (K : Value → World → Prop) (x0 : Int) (x1 : Int) (x2 : Int) (w : World) : Prop :=
  condP (decide (x0 < (0 : Int))) (ref10_New.p5 K x0 x1 x2 true w) (CallsE Tryd.prog 32 #[.int .i64 x1, .int .i64 x2] w (fun v6 w7 => ∃ (n8 : Int), v6 = .int .i64 n8 ∧ ref10_New.p5 K x0 x1 x2 (decide ((IntKind.wrap .i64 ((4096 : Int) - n8)) < x0)) w7))
abbrev ref10_New.p3 (K : Value → World → Prop) (x0 : Int) (x1 : Int) (x2 : Int) (x28 : Bool) (w : World) : Prop :=
  condP x28 (K (.tuple #[.pointer none, .int .i64 2]) w) (ref10_New.p4 K x0 x1 x2 w)
abbrev ref10_New.p2 (K : Value → World → Prop) (x0 : Int) (x1 : Int) (x2 : Int) (w : World) : Prop :=
  condP (decide (x1 < (7 : Int))) (condP (x2 != (0 : Int)) (ref10_New.p3 K x0 x1 x2 true w) (condP (x1 == (7 : Int)) (CallsE Tryd.prog 45 #[.int .i64 x2] w (fun v9 w10 => ∃ (n11 : Int), v9 = .int .i64 n11 ∧ ref10_New.p3 K x0 x1 x2 (n11 != (7 : Int)) w10)) (ref10_New.p3 K x0 x1 x2 false w))) (condP (x1 == (7 : Int)) (CallsE Tryd.prog 45 #[.int .i64 x2] w (fun v12 w13 => ∃ (n14 : Int), v12 = .int .i64 n14 ∧ ref10_New.p3 K x0 x1 x2 (n14 != (7 : Int)) w13)) (ref10_New.p3 K x0 x1 x2 false w))
abbrev ref10_New.p1 (K : Value → World → Prop) (x0 : Int) (x1 : Int) (x2 : Int) (x13 : Bool) (w : World) : Prop :=
  condP x13 (K (.tuple #[.pointer none, .int .i64 11]) w) (ref10_New.p2 K x0 x1 x2 w)
abbrev ref10_New.p0 (K : Value → World → Prop) (x0 : Int) (x1 : Int) (x2 : Int) (w : World) : Prop :=
  condP (decide (x1 < (0 : Int))) (ref10_New.p1 K x0 x1 x2 true w) (ref10_New.p1 K x0 x1 x2 (decide ((7 : Int) < x1)) w)
abbrev ref10_New.F (q0 : Int) (q1 : Int) (q2 : Int) (K : Value → World → Prop) (w : World) : Prop :=
  ref10_New.p0 K q0 q1 q2 w
theorem ref10_New.ok {q0 : Int} {q1 : Int} {q2 : Int} {K : Value → World → Prop} {w : World} (h : ref10_New.F q0 q1 q2 K w) :
    CallsE Tryd.prog 24 #[.int .i64 q0, .int .i64 q1, .int .i64 q2] w K := by
  refine calls_of_J (n := 47) (rs := [.tmp 6, .tmp 7]) Tryd.func24 rfl rfl rfl rfl ?_
  refine J_seq (fun σ w => vI .i64 (σ 0) fun x0 => vI .i64 (σ 1) fun x1 => vI .i64 (σ 2) fun x2 => ref10_New.p0 K x0 x1 x2 w) ?_ ?_
  ·
    exact sh_sound _ _ _ _ (Eq.mp (by kernel_rfl) h)
  · intro σ w h
    obtain ⟨x0, e0, h⟩ := vI_elim h
    obtain ⟨x1, e1, h⟩ := vI_elim h
    obtain ⟨x2, e2, h⟩ := vI_elim h
    refine J.sub ?_ ((((Sub.base _).upd e0).upd e1).upd e2)
    clear e0 e1 e2
    refine J_seq (fun σ w => vI .i64 (σ 0) fun x0 => vI .i64 (σ 1) fun x1 => vI .i64 (σ 2) fun x2 => ref10_New.p2 K x0 x1 x2 w) ?_ ?_
    ·
      refine J_seq (fun σ w => vI .i64 (σ 0) fun x0 => vI .i64 (σ 1) fun x1 => vI .i64 (σ 2) fun x2 => vB (σ 13) fun x13 => ref10_New.p1 K x0 x1 x2 x13 w) ?_ ?_
      ·
        exact sh_sound _ _ _ _ (Eq.mp (by kernel_rfl) h)
      · intro σ w h
        obtain ⟨x0, e0, h⟩ := vI_elim h
        obtain ⟨x1, e1, h⟩ := vI_elim h
        obtain ⟨x2, e2, h⟩ := vI_elim h
        obtain ⟨x13, e13, h⟩ := vB_elim h
        refine J.sub ?_ (((((Sub.base _).upd e0).upd e1).upd e2).upd e13)
        clear e0 e1 e2 e13
        exact sh_sound _ _ _ _ (Eq.mp (by kernel_rfl) h)
    · intro σ w h
      obtain ⟨x0, e0, h⟩ := vI_elim h
      obtain ⟨x1, e1, h⟩ := vI_elim h
      obtain ⟨x2, e2, h⟩ := vI_elim h
      refine J.sub ?_ ((((Sub.base _).upd e0).upd e1).upd e2)
      clear e0 e1 e2
      refine J_seq (fun σ w => vI .i64 (σ 0) fun x0 => vI .i64 (σ 1) fun x1 => vI .i64 (σ 2) fun x2 => ref10_New.p4 K x0 x1 x2 w) ?_ ?_
      ·
        refine J_seq (fun σ w => vI .i64 (σ 0) fun x0 => vI .i64 (σ 1) fun x1 => vI .i64 (σ 2) fun x2 => vB (σ 28) fun x28 => ref10_New.p3 K x0 x1 x2 x28 w) ?_ ?_
        ·
          exact sh_sound _ _ _ _ (Eq.mp (by kernel_rfl) h)
        · intro σ w h
          obtain ⟨x0, e0, h⟩ := vI_elim h
          obtain ⟨x1, e1, h⟩ := vI_elim h
          obtain ⟨x2, e2, h⟩ := vI_elim h
          obtain ⟨x28, e28, h⟩ := vB_elim h
          refine J.sub ?_ (((((Sub.base _).upd e0).upd e1).upd e2).upd e28)
          clear e0 e1 e2 e28
          exact sh_sound _ _ _ _ (Eq.mp (by kernel_rfl) h)
      · intro σ w h
        obtain ⟨x0, e0, h⟩ := vI_elim h
        obtain ⟨x1, e1, h⟩ := vI_elim h
        obtain ⟨x2, e2, h⟩ := vI_elim h
        refine J.sub ?_ ((((Sub.base _).upd e0).upd e1).upd e2)
        clear e0 e1 e2
        refine J_seq (fun σ w => vI .i64 (σ 0) fun x0 => vI .i64 (σ 1) fun x1 => vI .i64 (σ 2) fun x2 => ref10_New.p6 K x0 x1 x2 w) ?_ ?_
        ·
          refine J_seq (fun σ w => vI .i64 (σ 0) fun x0 => vI .i64 (σ 1) fun x1 => vI .i64 (σ 2) fun x2 => vB (σ 38) fun x38 => ref10_New.p5 K x0 x1 x2 x38 w) ?_ ?_
          ·
            exact sh_sound _ _ _ _ (Eq.mp (by kernel_rfl) h)
          · intro σ w h
            obtain ⟨x0, e0, h⟩ := vI_elim h
            obtain ⟨x1, e1, h⟩ := vI_elim h
            obtain ⟨x2, e2, h⟩ := vI_elim h
            obtain ⟨x38, e38, h⟩ := vB_elim h
            refine J.sub ?_ (((((Sub.base _).upd e0).upd e1).upd e2).upd e38)
            clear e0 e1 e2 e38
            exact sh_sound _ _ _ _ (Eq.mp (by kernel_rfl) h)
        · intro σ w h
          obtain ⟨x0, e0, h⟩ := vI_elim h
          obtain ⟨x1, e1, h⟩ := vI_elim h
          obtain ⟨x2, e2, h⟩ := vI_elim h
          refine J.sub ?_ ((((Sub.base _).upd e0).upd e1).upd e2)
          clear e0 e1 e2
          exact sh_sound _ _ _ _ (Eq.mp (by kernel_rfl) h)

/-! ### (*hayloft/hayloftref10.Span).Data: function 25 -/
abbrev ref10_Span_Data.p1 (K : Value → World → Prop) (x2 : Addr) (w : World) : Prop :=
  ∃ (n18 : Int), w.cell? x2 = some (.int .i64 n18) ∧ ∃ (n19 : Int), w.cell? (x2.add 1) = some (.int .i64 n19) ∧ ∃ (n20 : Int), w.cell? (x2.add 2) = some (.int .i64 n20) ∧ ∃ (A21 : Option Addr) (m22 : Nat) (c23 : Nat), w.cell? (x2.add 3) = some (.slice A21 m22 c23) ∧ K (.agg #[.int .i64 n18, .int .i64 n19, .int .i64 n20, .slice A21 m22 c23]) w
abbrev ref10_Span_Data.p0 (K : Value → World → Prop) (x0 : Option Addr) (x2 : Addr) (w : World) : Prop :=
  ∃ (S2 : Array Obj → Prop), S2 w.heap ∧ ∃ (a3 : Addr), x0 = some a3 ∧ ∃ (a4 : Addr), x0 = some a4 ∧ ∃ (a5 : Addr), x0 = some a5 ∧ ∃ (n6 : Int), (∀ w' : World, S2 w'.heap → w'.cell? a3 = some (.int .i64 n6)) ∧ ∃ (n7 : Int), (∀ w' : World, S2 w'.heap → w'.cell? (a4.add 1) = some (.int .i64 n7)) ∧ ∃ (n8 : Int), (∀ w' : World, S2 w'.heap → w'.cell? (a5.add 2) = some (.int .i64 n8)) ∧ CallsE Tryd.prog 30 #[.pointer x0] w (fun v9 w10 => ∃ (A11 : Option Addr) (m12 : Nat) (c13 : Nat), v9 = .slice A11 m12 c13 ∧ S2 w10.heap ∧ canStore w10 x2 ∧ wlet (w10.setCell x2 (.int .i64 n6)) fun w14 => canStore w14 (x2.add 1) ∧ wlet (w14.setCell (x2.add 1) (.int .i64 n7)) fun w15 => canStore w15 (x2.add 2) ∧ wlet (w15.setCell (x2.add 2) (.int .i64 n8)) fun w16 => canStore w16 (x2.add 3) ∧ wlet (w16.setCell (x2.add 3) (.slice A11 m12 c13)) fun w17 => ref10_Span_Data.p1 K x2 w17)
abbrev ref10_Span_Data.F (q0 : Option Addr) (K : Value → World → Prop) (w : World) : Prop :=
  wlet (w.alloc (.cells #[.int .i64 0, .int .i64 0, .int .i64 0, .slice none 0 0] 33)) fun w1 => ref10_Span_Data.p0 K q0 (⟨w.heap.size, 0, none⟩) w1
theorem ref10_Span_Data.ok {q0 : Option Addr} {K : Value → World → Prop} {w : World} (h : ref10_Span_Data.F q0 K w) :
    CallsE Tryd.prog 25 #[.pointer q0] w K := by
  refine calls_of_J (n := 18) (rs := [.cell 2 33]) Tryd.func25 rfl rfl rfl rfl ?_
  refine J_seq (fun σ w => vP (σ 0) fun x0 => vPa (σ 2) fun x2 => ref10_Span_Data.p0 K x0 x2 w) ?_ ?_
  ·
    exact sh_sound _ _ _ _ (Eq.mp (by kernel_rfl) h)
  · intro σ w h
    obtain ⟨x0, e0, h⟩ := vP_elim h
    obtain ⟨x2, e2, h⟩ := vPa_elim h
    refine J.sub ?_ (((Sub.base _).upd e0).upd e2)
    clear e0 e2
    refine J_seq (fun σ w => vPa (σ 2) fun x2 => ref10_Span_Data.p1 K x2 w) ?_ ?_
    ·
      exact J_held [15, 14] [(0, 0), (1, 0), (2, 0), (4, 0), (5, 0), (6, 0), (8, 0), (9, 0), (10, 0), (12, 0), (3, 1), (7, 1), (11, 1), (13, 2), (14, 3), (15, 3)] (by kernel_rfl) (Eq.mp (by kernel_rfl) h)
    · intro σ w h
      obtain ⟨x2, e2, h⟩ := vPa_elim h
      refine J.sub ?_ ((Sub.base _).upd e2)
      clear e2
      exact sh_sound _ _ _ _ (Eq.mp (by kernel_rfl) h)

/-! ### (*hayloft/span.Span).Page: function 26 -/
abbrev span_Span_Page.F (q0 : Option Addr) (K : Value → World → Prop) (w : World) : Prop :=
  condP q0.isNone (K (.int .i64 0) w) (∃ (a1 : Addr), q0 = some a1 ∧ ∃ (n2 : Int), w.cell? (a1.add 1) = some (.int .i64 n2) ∧ K (.int .i64 n2) w)
theorem span_Span_Page.ok {q0 : Option Addr} {K : Value → World → Prop} {w : World} (h : span_Span_Page.F q0 K w) :
    CallsE Tryd.prog 26 #[.pointer q0] w K := by
  refine calls_of_J (n := 9) (rs := [.tmp 2]) Tryd.func26 rfl rfl rfl rfl ?_
  exact sh_sound _ _ _ _ (Eq.mp (by kernel_rfl) h)

/-! ### (*hayloft/span.Span).Class: function 27 -/
abbrev span_Span_Class.F (q0 : Option Addr) (K : Value → World → Prop) (w : World) : Prop :=
  condP q0.isNone (K (.int .i64 0) w) (∃ (a1 : Addr), q0 = some a1 ∧ ∃ (n2 : Int), w.cell? (a1.add 3) = some (.int .i64 n2) ∧ K (.int .i64 n2) w)
theorem span_Span_Class.ok {q0 : Option Addr} {K : Value → World → Prop} {w : World} (h : span_Span_Class.F q0 K w) :
    CallsE Tryd.prog 27 #[.pointer q0] w K := by
  refine calls_of_J (n := 9) (rs := [.tmp 2]) Tryd.func27 rfl rfl rfl rfl ?_
  exact sh_sound _ _ _ _ (Eq.mp (by kernel_rfl) h)

/-! ### hayloft/hayloftref10.Of: function 28 -/
abbrev ref10_Of.p9 (L0 : Addr → Option Addr → Option Addr → Nat → Nat → Int → Int → World → Prop) (K : Value → World → Prop) (x1 : Addr) (x4 : Option Addr) (x22A : Option Addr) (x22n : Nat) (x22c : Nat) (x23 : Int) (x24 : Int) (w : World) : Prop :=
  L0 x1 x4 x22A x22n x22c x23 (IntKind.wrap .i64 (x24 + (1 : Int))) w
abbrev ref10_Of.p8 (L0 : Addr → Option Addr → Option Addr → Nat → Nat → Int → Int → World → Prop) (K : Value → World → Prop) (x1 : Addr) (x4 : Option Addr) (x7 : Int) (x22A : Option Addr) (x22n : Nat) (x22c : Nat) (x23 : Int) (x24 : Int) (w : World) : Prop :=
  ∃ (a14 : Addr), x4 = some a14 ∧ ∃ (A15 : Option Addr) (m16 : Nat) (c17 : Nat), w.cell? (a14.add 3) = some (.slice A15 m16 c17) ∧ (0 ≤ x7 ∧ x7 < ((m16 : Nat) : Int)) ∧ ∃ (a18 : Addr), A15 = some a18 ∧ canStore w (a18.add x7.toNat) ∧ wlet (w.setCell (a18.add x7.toNat) (.bool true)) fun w19 => ref10_Of.p9 L0 K x1 x4 x22A x22n x22c x23 x24 w19
abbrev ref10_Of.p7 (L0 : Addr → Option Addr → Option Addr → Nat → Nat → Int → Int → World → Prop) (K : Value → World → Prop) (x1 : Addr) (x4 : Option Addr) (x7 : Int) (x22A : Option Addr) (x22n : Nat) (x22c : Nat) (x23 : Int) (x24 : Int) (x53 : Bool) (w : World) : Prop :=
  condP x53 (K (.tuple #[.pointer none, .int .i64 4]) w) (ref10_Of.p8 L0 K x1 x4 x7 x22A x22n x22c x23 x24 w)
abbrev ref10_Of.p6 (L0 : Addr → Option Addr → Option Addr → Nat → Nat → Int → Int → World → Prop) (K : Value → World → Prop) (x1 : Addr) (x4 : Option Addr) (x6 : Int) (x7 : Int) (x22A : Option Addr) (x22n : Nat) (x22c : Nat) (x23 : Int) (x24 : Int) (w : World) : Prop :=
  condP (decide (x7 < (0 : Int))) (ref10_Of.p7 L0 K x1 x4 x7 x22A x22n x22c x23 x24 true w) (∃ (a20 : Addr), x4 = some a20 ∧ ∃ (A21 : Option Addr) (m22 : Nat) (c23 : Nat), w.cell? (a20.add 3) = some (.slice A21 m22 c23) ∧ condP (decide (((m22 : Nat) : Int) ≤ x7)) (ref10_Of.p7 L0 K x1 x4 x7 x22A x22n x22c x23 x24 true w) (condP (decide ((0 : Int) < x6)) (∃ (A24 : Option Addr) (m25 : Nat) (c26 : Nat), w.cell? (x1.add 3) = some (.slice A24 m25 c26) ∧ (0 ≤ (IntKind.wrap .i64 (x6 - (1 : Int))) ∧ (IntKind.wrap .i64 (x6 - (1 : Int))) < ((m25 : Nat) : Int)) ∧ ∃ (a27 : Addr), A24 = some a27 ∧ ∃ (n28 : Int), w.cell? (a27.add ((IntKind.wrap .i64 (x6 - (1 : Int))).toNat)) = some (.int .i64 n28) ∧ ref10_Of.p7 L0 K x1 x4 x7 x22A x22n x22c x23 x24 (decide (x7 ≤ n28)) w) (ref10_Of.p7 L0 K x1 x4 x7 x22A x22n x22c x23 x24 false w)))
abbrev ref10_Of.p5 (L0 : Addr → Option Addr → Option Addr → Nat → Nat → Int → Int → World → Prop) (K : Value → World → Prop) (x1 : Addr) (x4 : Option Addr) (x22A : Option Addr) (x22n : Nat) (x22c : Nat) (x23 : Int) (x24 : Int) (w : World) : Prop :=
  (0 ≤ x24 ∧ x24 < ((x22n : Nat) : Int)) ∧ ∃ (a12 : Addr), x22A = some a12 ∧ ∃ (n13 : Int), w.cell? (a12.add x24.toNat) = some (.int .i64 n13) ∧ ref10_Of.p6 L0 K x1 x4 x24 n13 x22A x22n x22c x23 x24 w
abbrev ref10_Of.p10 (K : Value → World → Prop) (x4 : Option Addr) (w : World) : Prop :=
  K (.tuple #[.pointer x4, .int .i64 0]) w
abbrev ref10_Of.p4 (L0 : Addr → Option Addr → Option Addr → Nat → Nat → Int → Int → World → Prop) (K : Value → World → Prop) (x1 : Addr) (x4 : Option Addr) (x22A : Option Addr) (x22n : Nat) (x22c : Nat) (x23 : Int) (x24 : Int) (x25 : Bool) (w : World) : Prop :=
  condP x25 (ref10_Of.p5 L0 K x1 x4 x22A x22n x22c x23 x24 w) (ref10_Of.p10 K x4 w)
abbrev ref10_Of.b0 (L0 : Addr → Option Addr → Option Addr → Nat → Nat → Int → Int → World → Prop) (K : Value → World → Prop) (x1 : Addr) (x4 : Option Addr) (x22A : Option Addr) (x22n : Nat) (x22c : Nat) (x23 : Int) (x24 : Int) (w : World) : Prop :=
  ref10_Of.p4 L0 K x1 x4 x22A x22n x22c x23 x24 (decide (x24 < x23)) w
def ref10_Of.l0 (K : Value → World → Prop) (k : Nat) : Addr → Option Addr → Option Addr → Nat → Nat → Int → Int → World → Prop :=
  Nat.rec (motive := fun _ => Addr → Option Addr → Option Addr → Nat → Nat → Int → Int → World → Prop) (fun _ _ _ _ _ _ _ _ => False) (fun _ ih => ref10_Of.b0 ih K) k
theorem ref10_Of.l0_succ (K : Value → World → Prop) (k : Nat) (x1 : Addr) (x4 : Option Addr) (x22A : Option Addr) (x22n : Nat) (x22c : Nat) (x23 : Int) (x24 : Int) (w : World) : ref10_Of.l0 K (k + 1) x1 x4 x22A x22n x22c x23 x24 w = ref10_Of.b0 (ref10_Of.l0 K k) K x1 x4 x22A x22n x22c x23 x24 w := rfl
abbrev ref10_Of.p3 (K : Value → World → Prop) (x1 : Addr) (x4 : Option Addr) (x22A : Option Addr) (x22n : Nat) (x22c : Nat) (x23 : Int) (x24 : Int) (w : World) : Prop :=
  ∃ k, ref10_Of.l0 K k x1 x4 x22A x22n x22c x23 x24 w
abbrev ref10_Of.p2 (K : Value → World → Prop) (x1 : Addr) (x4 : Option Addr) (w : World) : Prop :=
  ∃ (A9 : Option Addr) (m10 : Nat) (c11 : Nat), w.cell? (x1.add 3) = some (.slice A9 m10 c11) ∧ ref10_Of.p3 K x1 x4 A9 m10 c11 ((m10 : Nat) : Int) 0 w
abbrev ref10_Of.p1 (K : Value → World → Prop) (x1 : Addr) (x4 : Option Addr) (x5 : Int) (w : World) : Prop :=
  condP (x5 != (0 : Int)) (K (.tuple #[.pointer none, .int .i64 x5]) w) (ref10_Of.p2 K x1 x4 w)
abbrev ref10_Of.p0 (K : Value → World → Prop) (x1 : Addr) (w : World) : Prop :=
  ∃ (n2 : Int), w.cell? x1 = some (.int .i64 n2) ∧ ∃ (n3 : Int), w.cell? (x1.add 1) = some (.int .i64 n3) ∧ ∃ (n4 : Int), w.cell? (x1.add 2) = some (.int .i64 n4) ∧ CallsE Tryd.prog 24 #[.int .i64 n2, .int .i64 n3, .int .i64 n4] w (fun v5 w6 => ∃ (p7 : Option Addr) (n8 : Int), v5 = .tuple #[.pointer p7, .int .i64 n8] ∧ ref10_Of.p1 K x1 p7 n8 w6)
abbrev ref10_Of.F (q0_0 : Int) (q0_1 : Int) (q0_2 : Int) (q0_3A : Option Addr) (q0_3n : Nat) (q0_3c : Nat) (K : Value → World → Prop) (w : World) : Prop :=
  wlet (w.alloc (.cells #[.int .i64 q0_0, .int .i64 q0_1, .int .i64 q0_2, .slice q0_3A q0_3n q0_3c] 33)) fun w1 => ref10_Of.p0 K (⟨w.heap.size, 0, none⟩) w1
theorem ref10_Of.ok {q0_0 : Int} {q0_1 : Int} {q0_2 : Int} {q0_3A : Option Addr} {q0_3n : Nat} {q0_3c : Nat} {K : Value → World → Prop} {w : World} (h : ref10_Of.F q0_0 q0_1 q0_2 q0_3A q0_3n q0_3c K w) :
    CallsE Tryd.prog 28 #[.agg #[.int .i64 q0_0, .int .i64 q0_1, .int .i64 q0_2, .slice q0_3A q0_3n q0_3c]] w K := by
  refine calls_of_J (n := 62) (rs := [.tmp 2, .tmp 3]) Tryd.func28 rfl rfl rfl rfl ?_
  refine J_seq (fun σ w => vPa (σ 1) fun x1 => ref10_Of.p0 K x1 w) ?_ ?_
  ·
    exact sh_sound _ _ _ _ (Eq.mp (by kernel_rfl) h)
  · intro σ w h
    obtain ⟨x1, e1, h⟩ := vPa_elim h
    refine J.sub ?_ ((Sub.base _).upd e1)
    clear e1
    refine J_seq (fun σ w => vPa (σ 1) fun x1 => vP (σ 4) fun x4 => vI .i64 (σ 5) fun x5 => ref10_Of.p1 K x1 x4 x5 w) ?_ ?_
    ·
      exact sh_sound _ _ _ _ (Eq.mp (by kernel_rfl) h)
    · intro σ w h
      obtain ⟨x1, e1, h⟩ := vPa_elim h
      obtain ⟨x4, e4, h⟩ := vP_elim h
      obtain ⟨x5, e5, h⟩ := vI_elim h
      refine J.sub ?_ ((((Sub.base _).upd e1).upd e4).upd e5)
      clear e1 e4 e5
      refine J_seq (fun σ w => vPa (σ 1) fun x1 => vP (σ 4) fun x4 => ref10_Of.p2 K x1 x4 w) ?_ ?_
      ·
        exact sh_sound _ _ _ _ (Eq.mp (by kernel_rfl) h)
      · intro σ w h
        obtain ⟨x1, e1, h⟩ := vPa_elim h
        obtain ⟨x4, e4, h⟩ := vP_elim h
        refine J.sub ?_ (((Sub.base _).upd e1).upd e4)
        clear e1 e4
        refine J_seq (fun σ w => vP (σ 4) fun x4 => ref10_Of.p10 K x4 w) ?_ ?_
        ·
          refine J_seq (fun σ w => vPa (σ 1) fun x1 => vP (σ 4) fun x4 => vS (σ 22) fun x22A x22n x22c => vI .i64 (σ 23) fun x23 => vI .i64 (σ 24) fun x24 => ref10_Of.p3 K x1 x4 x22A x22n x22c x23 x24 w) ?_ ?_
          ·
            exact sh_sound _ _ _ _ (Eq.mp (by kernel_rfl) h)
          · intro σ w h
            obtain ⟨x1, e1, h⟩ := vPa_elim h
            obtain ⟨x4, e4, h⟩ := vP_elim h
            obtain ⟨x22A, x22n, x22c, e22, h⟩ := vS_elim h
            obtain ⟨x23, e23, h⟩ := vI_elim h
            obtain ⟨x24, e24, h⟩ := vI_elim h
            refine J.sub ?_ ((((((Sub.base _).upd e1).upd e4).upd e22).upd e23).upd e24)
            clear e1 e4 e22 e23 e24
            refine J_block ?_
            refine J_loop (fun k σ w => vPa (σ 1) fun x1 => vP (σ 4) fun x4 => vS (σ 22) fun x22A x22n x22c => vI .i64 (σ 23) fun x23 => vI .i64 (σ 24) fun x24 => ref10_Of.l0 K k x1 x4 x22A x22n x22c x23 x24 w) (Eq.mp (by kernel_rfl) h) ?_ ?_
            · intro σ w h
              obtain ⟨x1, e1, h⟩ := vPa_elim h
              obtain ⟨x4, e4, h⟩ := vP_elim h
              obtain ⟨x22A, x22n, x22c, e22, h⟩ := vS_elim h
              obtain ⟨x23, e23, h⟩ := vI_elim h
              obtain ⟨x24, e24, h⟩ := vI_elim h
              exact h
            · intro k0 σ w h
              obtain ⟨x1, e1, h⟩ := vPa_elim h
              obtain ⟨x4, e4, h⟩ := vP_elim h
              obtain ⟨x22A, x22n, x22c, e22, h⟩ := vS_elim h
              obtain ⟨x23, e23, h⟩ := vI_elim h
              obtain ⟨x24, e24, h⟩ := vI_elim h
              refine J.sub ?_ ((((((Sub.base _).upd e1).upd e4).upd e22).upd e23).upd e24)
              clear e1 e4 e22 e23 e24
              refine J_seq (fun σ w => vPa (σ 1) fun x1 => vP (σ 4) fun x4 => vS (σ 22) fun x22A x22n x22c => vI .i64 (σ 23) fun x23 => vI .i64 (σ 24) fun x24 => vB (σ 25) fun x25 => ref10_Of.p4 (ref10_Of.l0 K k0) K x1 x4 x22A x22n x22c x23 x24 x25 w) ?_ ?_
              ·
                exact sh_sound _ _ _ _ (Eq.mp (by kernel_rfl) h)
              · intro σ w h
                obtain ⟨x1, e1, h⟩ := vPa_elim h
                obtain ⟨x4, e4, h⟩ := vP_elim h
                obtain ⟨x22A, x22n, x22c, e22, h⟩ := vS_elim h
                obtain ⟨x23, e23, h⟩ := vI_elim h
                obtain ⟨x24, e24, h⟩ := vI_elim h
                obtain ⟨x25, e25, h⟩ := vB_elim h
                refine J.sub ?_ (((((((Sub.base _).upd e1).upd e4).upd e22).upd e23).upd e24).upd e25)
                clear e1 e4 e22 e23 e24 e25
                refine J_seq (fun σ w => vPa (σ 1) fun x1 => vP (σ 4) fun x4 => vS (σ 22) fun x22A x22n x22c => vI .i64 (σ 23) fun x23 => vI .i64 (σ 24) fun x24 => ref10_Of.p5 (ref10_Of.l0 K k0) K x1 x4 x22A x22n x22c x23 x24 w) ?_ ?_
                ·
                  exact sh_sound _ _ _ _ (Eq.mp (by kernel_rfl) h)
                · intro σ w h
                  obtain ⟨x1, e1, h⟩ := vPa_elim h
                  obtain ⟨x4, e4, h⟩ := vP_elim h
                  obtain ⟨x22A, x22n, x22c, e22, h⟩ := vS_elim h
                  obtain ⟨x23, e23, h⟩ := vI_elim h
                  obtain ⟨x24, e24, h⟩ := vI_elim h
                  refine J.sub ?_ ((((((Sub.base _).upd e1).upd e4).upd e22).upd e23).upd e24)
                  clear e1 e4 e22 e23 e24
                  refine J_seq (fun σ w => vPa (σ 1) fun x1 => vP (σ 4) fun x4 => vS (σ 22) fun x22A x22n x22c => vI .i64 (σ 23) fun x23 => vI .i64 (σ 24) fun x24 => ref10_Of.p9 (ref10_Of.l0 K k0) K x1 x4 x22A x22n x22c x23 x24 w) ?_ ?_
                  ·
                    refine J_block ?_
                    refine J_seq (fun σ w => vPa (σ 1) fun x1 => vP (σ 4) fun x4 => vI .i64 (σ 6) fun x6 => vI .i64 (σ 7) fun x7 => vS (σ 22) fun x22A x22n x22c => vI .i64 (σ 23) fun x23 => vI .i64 (σ 24) fun x24 => ref10_Of.p6 (ref10_Of.l0 K k0) K x1 x4 x6 x7 x22A x22n x22c x23 x24 w) ?_ ?_
                    ·
                      exact sh_sound _ _ _ _ (Eq.mp (by kernel_rfl) h)
                    · intro σ w h
                      obtain ⟨x1, e1, h⟩ := vPa_elim h
                      obtain ⟨x4, e4, h⟩ := vP_elim h
                      obtain ⟨x6, e6, h⟩ := vI_elim h
                      obtain ⟨x7, e7, h⟩ := vI_elim h
                      obtain ⟨x22A, x22n, x22c, e22, h⟩ := vS_elim h
                      obtain ⟨x23, e23, h⟩ := vI_elim h
                      obtain ⟨x24, e24, h⟩ := vI_elim h
                      refine J.sub ?_ ((((((((Sub.base _).upd e1).upd e4).upd e6).upd e7).upd e22).upd e23).upd e24)
                      clear e1 e4 e6 e7 e22 e23 e24
                      refine J_seq (fun σ w => vPa (σ 1) fun x1 => vP (σ 4) fun x4 => vI .i64 (σ 7) fun x7 => vS (σ 22) fun x22A x22n x22c => vI .i64 (σ 23) fun x23 => vI .i64 (σ 24) fun x24 => ref10_Of.p8 (ref10_Of.l0 K k0) K x1 x4 x7 x22A x22n x22c x23 x24 w) ?_ ?_
                      ·
                        refine J_seq (fun σ w => vPa (σ 1) fun x1 => vP (σ 4) fun x4 => vI .i64 (σ 7) fun x7 => vS (σ 22) fun x22A x22n x22c => vI .i64 (σ 23) fun x23 => vI .i64 (σ 24) fun x24 => vB (σ 53) fun x53 => ref10_Of.p7 (ref10_Of.l0 K k0) K x1 x4 x7 x22A x22n x22c x23 x24 x53 w) ?_ ?_
                        ·
                          exact sh_sound _ _ _ _ (Eq.mp (by kernel_rfl) h)
                        · intro σ w h
                          obtain ⟨x1, e1, h⟩ := vPa_elim h
                          obtain ⟨x4, e4, h⟩ := vP_elim h
                          obtain ⟨x7, e7, h⟩ := vI_elim h
                          obtain ⟨x22A, x22n, x22c, e22, h⟩ := vS_elim h
                          obtain ⟨x23, e23, h⟩ := vI_elim h
                          obtain ⟨x24, e24, h⟩ := vI_elim h
                          obtain ⟨x53, e53, h⟩ := vB_elim h
                          refine J.sub ?_ ((((((((Sub.base _).upd e1).upd e4).upd e7).upd e22).upd e23).upd e24).upd e53)
                          clear e1 e4 e7 e22 e23 e24 e53
                          exact sh_sound _ _ _ _ (Eq.mp (by kernel_rfl) h)
                      · intro σ w h
                        obtain ⟨x1, e1, h⟩ := vPa_elim h
                        obtain ⟨x4, e4, h⟩ := vP_elim h
                        obtain ⟨x7, e7, h⟩ := vI_elim h
                        obtain ⟨x22A, x22n, x22c, e22, h⟩ := vS_elim h
                        obtain ⟨x23, e23, h⟩ := vI_elim h
                        obtain ⟨x24, e24, h⟩ := vI_elim h
                        refine J.sub ?_ (((((((Sub.base _).upd e1).upd e4).upd e7).upd e22).upd e23).upd e24)
                        clear e1 e4 e7 e22 e23 e24
                        exact sh_sound _ _ _ _ (Eq.mp (by kernel_rfl) h)
                  · intro σ w h
                    obtain ⟨x1, e1, h⟩ := vPa_elim h
                    obtain ⟨x4, e4, h⟩ := vP_elim h
                    obtain ⟨x22A, x22n, x22c, e22, h⟩ := vS_elim h
                    obtain ⟨x23, e23, h⟩ := vI_elim h
                    obtain ⟨x24, e24, h⟩ := vI_elim h
                    refine J.sub ?_ ((((((Sub.base _).upd e1).upd e4).upd e22).upd e23).upd e24)
                    clear e1 e4 e22 e23 e24
                    exact sh_sound _ _ _ _ (Eq.mp (by kernel_rfl) h)
        · intro σ w h
          obtain ⟨x4, e4, h⟩ := vP_elim h
          refine J.sub ?_ ((Sub.base _).upd e4)
          clear e4
          exact sh_sound _ _ _ _ (Eq.mp (by kernel_rfl) h)

/-! ### hayloft/hayloftlaw10.do: function 29 -/
abbrev law10_do.p5 (K : Value → World → Prop) (x6 : Bool) (w : World) : Prop :=
  K (.bool x6) w
abbrev law10_do.p4 (K : Value → World → Prop) (x7 : Int) (x8 : Bool) (x9 : Int) (x10 : Bool) (w : World) : Prop :=
  condP (x7 == x9) (law10_do.p5 K (x8 == x10) w) (law10_do.p5 K false w)
abbrev law10_do.p3 (K : Value → World → Prop) (x1 : Option Addr) (x7 : Int) (x8 : Bool) (w : World) : Prop :=
  CallsE Tryd.prog 47 #[.pointer x1] w (fun v7 w8 => ∃ (n9 : Int) (b10 : Bool), v7 = .tuple #[.int .i64 n9, .bool b10] ∧ law10_do.p4 K x7 x8 n9 b10 w8)
abbrev law10_do.p7 (K : Value → World → Prop) (x6 : Bool) (w : World) : Prop :=
  K (.bool x6) w
abbrev law10_do.p9 (K : Value → World → Prop) (x6 : Bool) (w : World) : Prop :=
  K (.bool x6) w
abbrev law10_do.p13 (K : Value → World → Prop) (x6 : Bool) (w : World) : Prop :=
  K (.bool x6) w
abbrev law10_do.p12 (K : Value → World → Prop) (x11 : Int) (x12 : Bool) (x13 : Int) (x14 : Bool) (w : World) : Prop :=
  condP (x11 == x13) (law10_do.p13 K (x12 == x14) w) (law10_do.p13 K false w)
abbrev law10_do.p11 (K : Value → World → Prop) (x1 : Option Addr) (x5 : Addr) (x11 : Int) (x12 : Bool) (w : World) : Prop :=
  ∃ (n34 : Int), w.cell? (x5.add 1) = some (.int .i64 n34) ∧ CallsE Tryd.prog 50 #[.pointer x1, .int .i64 n34] w (fun v35 w36 => ∃ (n37 : Int) (b38 : Bool), v35 = .tuple #[.int .i64 n37, .bool b38] ∧ law10_do.p12 K x11 x12 n37 b38 w36)
abbrev law10_do.p17 (K : Value → World → Prop) (x6 : Bool) (w : World) : Prop :=
  K (.bool x6) w
abbrev law10_do.p16 (K : Value → World → Prop) (x15 : Int) (x16 : Bool) (x17 : Int) (x18 : Bool) (w : World) : Prop :=
  condP (x15 == x17) (law10_do.p17 K (x16 == x18) w) (law10_do.p17 K false w)
abbrev law10_do.p15 (K : Value → World → Prop) (x1 : Option Addr) (x5 : Addr) (x15 : Int) (x16 : Bool) (w : World) : Prop :=
  ∃ (n44 : Int), w.cell? (x5.add 1) = some (.int .i64 n44) ∧ CallsE Tryd.prog 51 #[.pointer x1, .int .i64 n44] w (fun v45 w46 => ∃ (n47 : Int) (b48 : Bool), v45 = .tuple #[.int .i64 n47, .bool b48] ∧ law10_do.p16 K x15 x16 n47 b48 w46)
abbrev law10_do.p18 (K : Value → World → Prop) (w : World) : Prop :=
  K (.bool true) w
abbrev law10_do.p14 (K : Value → World → Prop) (x0 : Option Addr) (x1 : Option Addr) (x5 : Addr) (x87 : Bool) (w : World) : Prop :=
  condP x87 (∃ (n39 : Int), w.cell? (x5.add 1) = some (.int .i64 n39) ∧ CallsE Tryd.prog 13 #[.pointer x0, .int .i64 n39] w (fun v40 w41 => ∃ (n42 : Int) (b43 : Bool), v40 = .tuple #[.int .i64 n42, .bool b43] ∧ law10_do.p15 K x1 x5 n42 b43 w41)) (law10_do.p18 K w)
abbrev law10_do.p10 (K : Value → World → Prop) (x0 : Option Addr) (x1 : Option Addr) (x5 : Addr) (x20 : Int) (x63 : Bool) (w : World) : Prop :=
  condP x63 (∃ (n29 : Int), w.cell? (x5.add 1) = some (.int .i64 n29) ∧ CallsE Tryd.prog 12 #[.pointer x0, .int .i64 n29] w (fun v30 w31 => ∃ (n32 : Int) (b33 : Bool), v30 = .tuple #[.int .i64 n32, .bool b33] ∧ law10_do.p11 K x1 x5 n32 b33 w31)) (law10_do.p14 K x0 x1 x5 (x20 == (5 : Int)) w)
abbrev law10_do.p8 (K : Value → World → Prop) (x0 : Option Addr) (x1 : Option Addr) (x5 : Addr) (x20 : Int) (x52 : Bool) (w : World) : Prop :=
  condP x52 (∃ (S20 : Array Obj → Prop), S20 w.heap ∧ ∃ (n21 : Int), (∀ w' : World, S20 w'.heap → w'.cell? (x5.add 1) = some (.int .i64 n21)) ∧ ∃ (n22 : Int), (∀ w' : World, S20 w'.heap → w'.cell? (x5.add 1) = some (.int .i64 n22)) ∧ CallsE Tryd.prog 23 #[.pointer x0, .int .i64 n21] w (fun v23 w24 => ∃ (b25 : Bool), v23 = .bool b25 ∧ S20 w24.heap ∧ CallsE Tryd.prog 49 #[.pointer x1, .int .i64 n22] w24 (fun v26 w27 => ∃ (b28 : Bool), v26 = .bool b28 ∧ S20 w27.heap ∧ law10_do.p9 K (b25 == b28) w27))) (law10_do.p10 K x0 x1 x5 x20 (x20 == (4 : Int)) w)
abbrev law10_do.p6 (K : Value → World → Prop) (x0 : Option Addr) (x1 : Option Addr) (x5 : Addr) (x20 : Int) (x41 : Bool) (w : World) : Prop :=
  condP x41 (∃ (S11 : Array Obj → Prop), S11 w.heap ∧ ∃ (n12 : Int), (∀ w' : World, S11 w'.heap → w'.cell? (x5.add 1) = some (.int .i64 n12)) ∧ ∃ (n13 : Int), (∀ w' : World, S11 w'.heap → w'.cell? (x5.add 1) = some (.int .i64 n13)) ∧ CallsE Tryd.prog 21 #[.pointer x0, .int .i64 n12] w (fun v14 w15 => ∃ (b16 : Bool), v14 = .bool b16 ∧ S11 w15.heap ∧ CallsE Tryd.prog 48 #[.pointer x1, .int .i64 n13] w15 (fun v17 w18 => ∃ (b19 : Bool), v17 = .bool b19 ∧ S11 w18.heap ∧ law10_do.p7 K (b16 == b19) w18))) (law10_do.p8 K x0 x1 x5 x20 (x20 == (3 : Int)) w)
abbrev law10_do.p2 (K : Value → World → Prop) (x0 : Option Addr) (x1 : Option Addr) (x5 : Addr) (x20 : Int) (x21 : Bool) (w : World) : Prop :=
  condP x21 (CallsE Tryd.prog 20 #[.pointer x0] w (fun v3 w4 => ∃ (n5 : Int) (b6 : Bool), v3 = .tuple #[.int .i64 n5, .bool b6] ∧ law10_do.p3 K x1 n5 b6 w4)) (law10_do.p6 K x0 x1 x5 x20 (x20 == (2 : Int)) w)
abbrev law10_do.p1 (K : Value → World → Prop) (x0 : Option Addr) (x1 : Option Addr) (x5 : Addr) (x20 : Int) (w : World) : Prop :=
  law10_do.p2 K x0 x1 x5 x20 (x20 == (1 : Int)) w
abbrev law10_do.p0 (K : Value → World → Prop) (x0 : Option Addr) (x1 : Option Addr) (x5 : Addr) (w : World) : Prop :=
  ∃ (n2 : Int), w.cell? x5 = some (.int .i64 n2) ∧ law10_do.p1 K x0 x1 x5 n2 w
abbrev law10_do.F (q0 : Option Addr) (q1 : Option Addr) (q2_0 : Int) (q2_1 : Int) (K : Value → World → Prop) (w : World) : Prop :=
  wlet (w.alloc (.cells #[.int .i64 q2_0, .int .i64 q2_1] 40)) fun w1 => law10_do.p0 K q0 q1 (⟨w.heap.size, 0, none⟩) w1
theorem law10_do.ok {q0 : Option Addr} {q1 : Option Addr} {q2_0 : Int} {q2_1 : Int} {K : Value → World → Prop} {w : World} (h : law10_do.F q0 q1 q2_0 q2_1 K w) :
    CallsE Tryd.prog 29 #[.pointer q0, .pointer q1, .agg #[.int .i64 q2_0, .int .i64 q2_1]] w K := by
  refine calls_of_J (n := 111) (rs := [.tmp 6]) Tryd.func29 rfl rfl rfl rfl ?_
  refine J_seq (fun σ w => vP (σ 0) fun x0 => vP (σ 1) fun x1 => vPa (σ 5) fun x5 => law10_do.p0 K x0 x1 x5 w) ?_ ?_
  ·
    exact sh_sound _ _ _ _ (Eq.mp (by kernel_rfl) h)
  · intro σ w h
    obtain ⟨x0, e0, h⟩ := vP_elim h
    obtain ⟨x1, e1, h⟩ := vP_elim h
    obtain ⟨x5, e5, h⟩ := vPa_elim h
    refine J.sub ?_ ((((Sub.base _).upd e0).upd e1).upd e5)
    clear e0 e1 e5
    refine J_seq (fun σ w => law10_do.p18 K w) ?_ ?_
    ·
      refine J_seq (fun σ w => vP (σ 0) fun x0 => vP (σ 1) fun x1 => vPa (σ 5) fun x5 => vI .i64 (σ 20) fun x20 => law10_do.p1 K x0 x1 x5 x20 w) ?_ ?_
      ·
        exact sh_sound _ _ _ _ (Eq.mp (by kernel_rfl) h)
      · intro σ w h
        obtain ⟨x0, e0, h⟩ := vP_elim h
        obtain ⟨x1, e1, h⟩ := vP_elim h
        obtain ⟨x5, e5, h⟩ := vPa_elim h
        obtain ⟨x20, e20, h⟩ := vI_elim h
        refine J.sub ?_ (((((Sub.base _).upd e0).upd e1).upd e5).upd e20)
        clear e0 e1 e5 e20
        refine J_block ?_
        refine J_seq (fun σ w => vP (σ 0) fun x0 => vP (σ 1) fun x1 => vPa (σ 5) fun x5 => vI .i64 (σ 20) fun x20 => vB (σ 21) fun x21 => law10_do.p2 K x0 x1 x5 x20 x21 w) ?_ ?_
        ·
          exact sh_sound _ _ _ _ (Eq.mp (by kernel_rfl) h)
        · intro σ w h
          obtain ⟨x0, e0, h⟩ := vP_elim h
          obtain ⟨x1, e1, h⟩ := vP_elim h
          obtain ⟨x5, e5, h⟩ := vPa_elim h
          obtain ⟨x20, e20, h⟩ := vI_elim h
          obtain ⟨x21, e21, h⟩ := vB_elim h
          refine J.sub ?_ ((((((Sub.base _).upd e0).upd e1).upd e5).upd e20).upd e21)
          clear e0 e1 e5 e20 e21
          refine J_cond' h (by kernel_rfl) (fun h => ?_) (fun h => ?_)
          ·
            refine J_seq (fun σ w => vP (σ 1) fun x1 => vI .i64 (σ 7) fun x7 => vB (σ 8) fun x8 => law10_do.p3 K x1 x7 x8 w) ?_ ?_
            ·
              exact sh_sound _ _ _ _ (Eq.mp (by kernel_rfl) h)
            · intro σ w h
              obtain ⟨x1, e1, h⟩ := vP_elim h
              obtain ⟨x7, e7, h⟩ := vI_elim h
              obtain ⟨x8, e8, h⟩ := vB_elim h
              refine J.sub ?_ ((((Sub.base _).upd e1).upd e7).upd e8)
              clear e1 e7 e8
              refine J_seq (fun σ w => vI .i64 (σ 7) fun x7 => vB (σ 8) fun x8 => vI .i64 (σ 9) fun x9 => vB (σ 10) fun x10 => law10_do.p4 K x7 x8 x9 x10 w) ?_ ?_
              ·
                exact sh_sound _ _ _ _ (Eq.mp (by kernel_rfl) h)
              · intro σ w h
                obtain ⟨x7, e7, h⟩ := vI_elim h
                obtain ⟨x8, e8, h⟩ := vB_elim h
                obtain ⟨x9, e9, h⟩ := vI_elim h
                obtain ⟨x10, e10, h⟩ := vB_elim h
                refine J.sub ?_ (((((Sub.base _).upd e7).upd e8).upd e9).upd e10)
                clear e7 e8 e9 e10
                refine J_seq (fun σ w => vB (σ 6) fun x6 => law10_do.p5 K x6 w) ?_ ?_
                ·
                  exact sh_sound _ _ _ _ (Eq.mp (by kernel_rfl) h)
                · intro σ w h
                  obtain ⟨x6, e6, h⟩ := vB_elim h
                  refine J.sub ?_ ((Sub.base _).upd e6)
                  clear e6
                  exact sh_sound _ _ _ _ (Eq.mp (by kernel_rfl) h)
          ·
            refine J_seq (fun σ w => vP (σ 0) fun x0 => vP (σ 1) fun x1 => vPa (σ 5) fun x5 => vI .i64 (σ 20) fun x20 => vB (σ 41) fun x41 => law10_do.p6 K x0 x1 x5 x20 x41 w) ?_ ?_
            ·
              exact sh_sound _ _ _ _ (Eq.mp (by kernel_rfl) h)
            · intro σ w h
              obtain ⟨x0, e0, h⟩ := vP_elim h
              obtain ⟨x1, e1, h⟩ := vP_elim h
              obtain ⟨x5, e5, h⟩ := vPa_elim h
              obtain ⟨x20, e20, h⟩ := vI_elim h
              obtain ⟨x41, e41, h⟩ := vB_elim h
              refine J.sub ?_ ((((((Sub.base _).upd e0).upd e1).upd e5).upd e20).upd e41)
              clear e0 e1 e5 e20 e41
              refine J_cond' h (by kernel_rfl) (fun h => ?_) (fun h => ?_)
              ·
                refine J_seq (fun σ w => vB (σ 6) fun x6 => law10_do.p7 K x6 w) ?_ ?_
                ·
                  exact J_held [] [(0, 0), (1, 0), (4, 0), (5, 0), (2, 1), (6, 1), (3, 2), (7, 2), (8, 0), (9, 0)] (by kernel_rfl) (Eq.mp (by kernel_rfl) h)
                · intro σ w h
                  obtain ⟨x6, e6, h⟩ := vB_elim h
                  refine J.sub ?_ ((Sub.base _).upd e6)
                  clear e6
                  exact sh_sound _ _ _ _ (Eq.mp (by kernel_rfl) h)
              ·
                refine J_seq (fun σ w => vP (σ 0) fun x0 => vP (σ 1) fun x1 => vPa (σ 5) fun x5 => vI .i64 (σ 20) fun x20 => vB (σ 52) fun x52 => law10_do.p8 K x0 x1 x5 x20 x52 w) ?_ ?_
                ·
                  exact sh_sound _ _ _ _ (Eq.mp (by kernel_rfl) h)
                · intro σ w h
                  obtain ⟨x0, e0, h⟩ := vP_elim h
                  obtain ⟨x1, e1, h⟩ := vP_elim h
                  obtain ⟨x5, e5, h⟩ := vPa_elim h
                  obtain ⟨x20, e20, h⟩ := vI_elim h
                  obtain ⟨x52, e52, h⟩ := vB_elim h
                  refine J.sub ?_ ((((((Sub.base _).upd e0).upd e1).upd e5).upd e20).upd e52)
                  clear e0 e1 e5 e20 e52
                  refine J_cond' h (by kernel_rfl) (fun h => ?_) (fun h => ?_)
                  ·
                    refine J_seq (fun σ w => vB (σ 6) fun x6 => law10_do.p9 K x6 w) ?_ ?_
                    ·
                      exact J_held [] [(0, 0), (1, 0), (4, 0), (5, 0), (2, 1), (6, 1), (3, 2), (7, 2), (8, 0), (9, 0)] (by kernel_rfl) (Eq.mp (by kernel_rfl) h)
                    · intro σ w h
                      obtain ⟨x6, e6, h⟩ := vB_elim h
                      refine J.sub ?_ ((Sub.base _).upd e6)
                      clear e6
                      exact sh_sound _ _ _ _ (Eq.mp (by kernel_rfl) h)
                  ·
                    refine J_seq (fun σ w => vP (σ 0) fun x0 => vP (σ 1) fun x1 => vPa (σ 5) fun x5 => vI .i64 (σ 20) fun x20 => vB (σ 63) fun x63 => law10_do.p10 K x0 x1 x5 x20 x63 w) ?_ ?_
                    ·
                      exact sh_sound _ _ _ _ (Eq.mp (by kernel_rfl) h)
                    · intro σ w h
                      obtain ⟨x0, e0, h⟩ := vP_elim h
                      obtain ⟨x1, e1, h⟩ := vP_elim h
                      obtain ⟨x5, e5, h⟩ := vPa_elim h
                      obtain ⟨x20, e20, h⟩ := vI_elim h
                      obtain ⟨x63, e63, h⟩ := vB_elim h
                      refine J.sub ?_ ((((((Sub.base _).upd e0).upd e1).upd e5).upd e20).upd e63)
                      clear e0 e1 e5 e20 e63
                      refine J_cond' h (by kernel_rfl) (fun h => ?_) (fun h => ?_)
                      ·
                        refine J_seq (fun σ w => vP (σ 1) fun x1 => vPa (σ 5) fun x5 => vI .i64 (σ 11) fun x11 => vB (σ 12) fun x12 => law10_do.p11 K x1 x5 x11 x12 w) ?_ ?_
                        ·
                          exact sh_sound _ _ _ _ (Eq.mp (by kernel_rfl) h)
                        · intro σ w h
                          obtain ⟨x1, e1, h⟩ := vP_elim h
                          obtain ⟨x5, e5, h⟩ := vPa_elim h
                          obtain ⟨x11, e11, h⟩ := vI_elim h
                          obtain ⟨x12, e12, h⟩ := vB_elim h
                          refine J.sub ?_ (((((Sub.base _).upd e1).upd e5).upd e11).upd e12)
                          clear e1 e5 e11 e12
                          refine J_seq (fun σ w => vI .i64 (σ 11) fun x11 => vB (σ 12) fun x12 => vI .i64 (σ 13) fun x13 => vB (σ 14) fun x14 => law10_do.p12 K x11 x12 x13 x14 w) ?_ ?_
                          ·
                            exact sh_sound _ _ _ _ (Eq.mp (by kernel_rfl) h)
                          · intro σ w h
                            obtain ⟨x11, e11, h⟩ := vI_elim h
                            obtain ⟨x12, e12, h⟩ := vB_elim h
                            obtain ⟨x13, e13, h⟩ := vI_elim h
                            obtain ⟨x14, e14, h⟩ := vB_elim h
                            refine J.sub ?_ (((((Sub.base _).upd e11).upd e12).upd e13).upd e14)
                            clear e11 e12 e13 e14
                            refine J_seq (fun σ w => vB (σ 6) fun x6 => law10_do.p13 K x6 w) ?_ ?_
                            ·
                              exact sh_sound _ _ _ _ (Eq.mp (by kernel_rfl) h)
                            · intro σ w h
                              obtain ⟨x6, e6, h⟩ := vB_elim h
                              refine J.sub ?_ ((Sub.base _).upd e6)
                              clear e6
                              exact sh_sound _ _ _ _ (Eq.mp (by kernel_rfl) h)
                      ·
                        refine J_seq (fun σ w => vP (σ 0) fun x0 => vP (σ 1) fun x1 => vPa (σ 5) fun x5 => vB (σ 87) fun x87 => law10_do.p14 K x0 x1 x5 x87 w) ?_ ?_
                        ·
                          exact sh_sound _ _ _ _ (Eq.mp (by kernel_rfl) h)
                        · intro σ w h
                          obtain ⟨x0, e0, h⟩ := vP_elim h
                          obtain ⟨x1, e1, h⟩ := vP_elim h
                          obtain ⟨x5, e5, h⟩ := vPa_elim h
                          obtain ⟨x87, e87, h⟩ := vB_elim h
                          refine J.sub ?_ (((((Sub.base _).upd e0).upd e1).upd e5).upd e87)
                          clear e0 e1 e5 e87
                          refine J_cond' h (by kernel_rfl) (fun h => ?_) (fun h => ?_)
                          ·
                            refine J_seq (fun σ w => vP (σ 1) fun x1 => vPa (σ 5) fun x5 => vI .i64 (σ 15) fun x15 => vB (σ 16) fun x16 => law10_do.p15 K x1 x5 x15 x16 w) ?_ ?_
                            ·
                              exact sh_sound _ _ _ _ (Eq.mp (by kernel_rfl) h)
                            · intro σ w h
                              obtain ⟨x1, e1, h⟩ := vP_elim h
                              obtain ⟨x5, e5, h⟩ := vPa_elim h
                              obtain ⟨x15, e15, h⟩ := vI_elim h
                              obtain ⟨x16, e16, h⟩ := vB_elim h
                              refine J.sub ?_ (((((Sub.base _).upd e1).upd e5).upd e15).upd e16)
                              clear e1 e5 e15 e16
                              refine J_seq (fun σ w => vI .i64 (σ 15) fun x15 => vB (σ 16) fun x16 => vI .i64 (σ 17) fun x17 => vB (σ 18) fun x18 => law10_do.p16 K x15 x16 x17 x18 w) ?_ ?_
                              ·
                                exact sh_sound _ _ _ _ (Eq.mp (by kernel_rfl) h)
                              · intro σ w h
                                obtain ⟨x15, e15, h⟩ := vI_elim h
                                obtain ⟨x16, e16, h⟩ := vB_elim h
                                obtain ⟨x17, e17, h⟩ := vI_elim h
                                obtain ⟨x18, e18, h⟩ := vB_elim h
                                refine J.sub ?_ (((((Sub.base _).upd e15).upd e16).upd e17).upd e18)
                                clear e15 e16 e17 e18
                                refine J_seq (fun σ w => vB (σ 6) fun x6 => law10_do.p17 K x6 w) ?_ ?_
                                ·
                                  exact sh_sound _ _ _ _ (Eq.mp (by kernel_rfl) h)
                                · intro σ w h
                                  obtain ⟨x6, e6, h⟩ := vB_elim h
                                  refine J.sub ?_ ((Sub.base _).upd e6)
                                  clear e6
                                  exact sh_sound _ _ _ _ (Eq.mp (by kernel_rfl) h)
                          ·
                            exact sh_sound _ _ _ _ (Eq.mp (by kernel_rfl) h)
    · intro σ w h
      refine J.sub ?_ (Sub.base _)
      exact sh_sound _ _ _ _ (Eq.mp (by kernel_rfl) h)

/-! ### (*hayloft/hayloftref10.Span).Live: function 30 -/
abbrev ref10_Span_Live.p5 (L0 : Option Addr → Option Addr → Nat → Nat → Int → Int → World → Prop) (K : Value → World → Prop) (x0 : Option Addr) (x3A : Option Addr) (x3n : Nat) (x3c : Nat) (x9 : Int) (x10 : Int) (w : World) : Prop :=
  L0 x0 x3A x3n x3c x9 (IntKind.wrap .i64 (x10 + (1 : Int))) w
abbrev ref10_Span_Live.p4 (L0 : Option Addr → Option Addr → Nat → Nat → Int → Int → World → Prop) (K : Value → World → Prop) (x0 : Option Addr) (x3A : Option Addr) (x3n : Nat) (x3c : Nat) (x9 : Int) (x10 : Int) (w : World) : Prop :=
  ∃ (a5 : Addr), x0 = some a5 ∧ ∃ (A6 : Option Addr) (m7 : Nat) (c8 : Nat), w.cell? (a5.add 3) = some (.slice A6 m7 c8) ∧ (0 ≤ x10 ∧ x10 < ((m7 : Nat) : Int)) ∧ ∃ (a9 : Addr), A6 = some a9 ∧ ∃ (b10 : Bool), w.cell? (a9.add x10.toNat) = some (.bool b10) ∧ condP b10 (wlet (w.alloc (.cells #[.int .i64 x10] 3)) fun w11 => SemJ Tryd.prog (Builtin.append_ #[31, 31] 31 #[.slice x3A x3n x3c, .slice (some ⟨w.heap.size, 0, none⟩) 1 1]) (fun v12 w13 => ∃ (A14 : Option Addr) (m15 : Nat) (c16 : Nat), v12 = .slice A14 m15 c16 ∧ ref10_Span_Live.p5 L0 K x0 A14 m15 c16 x9 x10 w13) w11) (ref10_Span_Live.p5 L0 K x0 x3A x3n x3c x9 x10 w)
abbrev ref10_Span_Live.p6 (K : Value → World → Prop) (x3A : Option Addr) (x3n : Nat) (x3c : Nat) (w : World) : Prop :=
  K (.slice x3A x3n x3c) w
abbrev ref10_Span_Live.p3 (L0 : Option Addr → Option Addr → Nat → Nat → Int → Int → World → Prop) (K : Value → World → Prop) (x0 : Option Addr) (x3A : Option Addr) (x3n : Nat) (x3c : Nat) (x9 : Int) (x10 : Int) (x11 : Bool) (w : World) : Prop :=
  condP x11 (ref10_Span_Live.p4 L0 K x0 x3A x3n x3c x9 x10 w) (ref10_Span_Live.p6 K x3A x3n x3c w)
abbrev ref10_Span_Live.b0 (L0 : Option Addr → Option Addr → Nat → Nat → Int → Int → World → Prop) (K : Value → World → Prop) (x0 : Option Addr) (x3A : Option Addr) (x3n : Nat) (x3c : Nat) (x9 : Int) (x10 : Int) (w : World) : Prop :=
  ref10_Span_Live.p3 L0 K x0 x3A x3n x3c x9 x10 (decide (x10 < x9)) w
def ref10_Span_Live.l0 (K : Value → World → Prop) (k : Nat) : Option Addr → Option Addr → Nat → Nat → Int → Int → World → Prop :=
  Nat.rec (motive := fun _ => Option Addr → Option Addr → Nat → Nat → Int → Int → World → Prop) (fun _ _ _ _ _ _ _ => False) (fun _ ih => ref10_Span_Live.b0 ih K) k
theorem ref10_Span_Live.l0_succ (K : Value → World → Prop) (k : Nat) (x0 : Option Addr) (x3A : Option Addr) (x3n : Nat) (x3c : Nat) (x9 : Int) (x10 : Int) (w : World) : ref10_Span_Live.l0 K (k + 1) x0 x3A x3n x3c x9 x10 w = ref10_Span_Live.b0 (ref10_Span_Live.l0 K k) K x0 x3A x3n x3c x9 x10 w := rfl
abbrev ref10_Span_Live.p2 (K : Value → World → Prop) (x0 : Option Addr) (x3A : Option Addr) (x3n : Nat) (x3c : Nat) (x9 : Int) (x10 : Int) (w : World) : Prop :=
  ∃ k, ref10_Span_Live.l0 K k x0 x3A x3n x3c x9 x10 w
abbrev ref10_Span_Live.p1 (K : Value → World → Prop) (x0 : Option Addr) (x3A : Option Addr) (x3n : Nat) (x3c : Nat) (w : World) : Prop :=
  ∃ (a1 : Addr), x0 = some a1 ∧ ∃ (A2 : Option Addr) (m3 : Nat) (c4 : Nat), w.cell? (a1.add 3) = some (.slice A2 m3 c4) ∧ ref10_Span_Live.p2 K x0 x3A x3n x3c ((m3 : Nat) : Int) 0 w
abbrev ref10_Span_Live.p0 (K : Value → World → Prop) (x0 : Option Addr) (w : World) : Prop :=
  ref10_Span_Live.p1 K x0 none 0 0 w
abbrev ref10_Span_Live.F (q0 : Option Addr) (K : Value → World → Prop) (w : World) : Prop :=
  ref10_Span_Live.p0 K q0 w
theorem ref10_Span_Live.ok {q0 : Option Addr} {K : Value → World → Prop} {w : World} (h : ref10_Span_Live.F q0 K w) :
    CallsE Tryd.prog 30 #[.pointer q0] w K := by
  refine calls_of_J (n := 26) (rs := [.tmp 2]) Tryd.func30 rfl rfl rfl rfl ?_
  refine J_seq (fun σ w => vP (σ 0) fun x0 => ref10_Span_Live.p0 K x0 w) ?_ ?_
  ·
    exact sh_sound _ _ _ _ (Eq.mp (by kernel_rfl) h)
  · intro σ w h
    obtain ⟨x0, e0, h⟩ := vP_elim h
    refine J.sub ?_ ((Sub.base _).upd e0)
    clear e0
    refine J_seq (fun σ w => vP (σ 0) fun x0 => vS (σ 3) fun x3A x3n x3c => ref10_Span_Live.p1 K x0 x3A x3n x3c w) ?_ ?_
    ·
      exact sh_sound _ _ _ _ (Eq.mp (by kernel_rfl) h)
    · intro σ w h
      obtain ⟨x0, e0, h⟩ := vP_elim h
      obtain ⟨x3A, x3n, x3c, e3, h⟩ := vS_elim h
      refine J.sub ?_ (((Sub.base _).upd e0).upd e3)
      clear e0 e3
      refine J_seq (fun σ w => vS (σ 3) fun x3A x3n x3c => ref10_Span_Live.p6 K x3A x3n x3c w) ?_ ?_
      ·
        refine J_seq (fun σ w => vP (σ 0) fun x0 => vS (σ 3) fun x3A x3n x3c => vI .i64 (σ 9) fun x9 => vI .i64 (σ 10) fun x10 => ref10_Span_Live.p2 K x0 x3A x3n x3c x9 x10 w) ?_ ?_
        ·
          exact sh_sound _ _ _ _ (Eq.mp (by kernel_rfl) h)
        · intro σ w h
          obtain ⟨x0, e0, h⟩ := vP_elim h
          obtain ⟨x3A, x3n, x3c, e3, h⟩ := vS_elim h
          obtain ⟨x9, e9, h⟩ := vI_elim h
          obtain ⟨x10, e10, h⟩ := vI_elim h
          refine J.sub ?_ (((((Sub.base _).upd e0).upd e3).upd e9).upd e10)
          clear e0 e3 e9 e10
          refine J_block ?_
          refine J_loop (fun k σ w => vP (σ 0) fun x0 => vS (σ 3) fun x3A x3n x3c => vI .i64 (σ 9) fun x9 => vI .i64 (σ 10) fun x10 => ref10_Span_Live.l0 K k x0 x3A x3n x3c x9 x10 w) (Eq.mp (by kernel_rfl) h) ?_ ?_
          · intro σ w h
            obtain ⟨x0, e0, h⟩ := vP_elim h
            obtain ⟨x3A, x3n, x3c, e3, h⟩ := vS_elim h
            obtain ⟨x9, e9, h⟩ := vI_elim h
            obtain ⟨x10, e10, h⟩ := vI_elim h
            exact h
          · intro k0 σ w h
            obtain ⟨x0, e0, h⟩ := vP_elim h
            obtain ⟨x3A, x3n, x3c, e3, h⟩ := vS_elim h
            obtain ⟨x9, e9, h⟩ := vI_elim h
            obtain ⟨x10, e10, h⟩ := vI_elim h
            refine J.sub ?_ (((((Sub.base _).upd e0).upd e3).upd e9).upd e10)
            clear e0 e3 e9 e10
            refine J_seq (fun σ w => vP (σ 0) fun x0 => vS (σ 3) fun x3A x3n x3c => vI .i64 (σ 9) fun x9 => vI .i64 (σ 10) fun x10 => vB (σ 11) fun x11 => ref10_Span_Live.p3 (ref10_Span_Live.l0 K k0) K x0 x3A x3n x3c x9 x10 x11 w) ?_ ?_
            ·
              exact sh_sound _ _ _ _ (Eq.mp (by kernel_rfl) h)
            · intro σ w h
              obtain ⟨x0, e0, h⟩ := vP_elim h
              obtain ⟨x3A, x3n, x3c, e3, h⟩ := vS_elim h
              obtain ⟨x9, e9, h⟩ := vI_elim h
              obtain ⟨x10, e10, h⟩ := vI_elim h
              obtain ⟨x11, e11, h⟩ := vB_elim h
              refine J.sub ?_ ((((((Sub.base _).upd e0).upd e3).upd e9).upd e10).upd e11)
              clear e0 e3 e9 e10 e11
              refine J_seq (fun σ w => vP (σ 0) fun x0 => vS (σ 3) fun x3A x3n x3c => vI .i64 (σ 9) fun x9 => vI .i64 (σ 10) fun x10 => ref10_Span_Live.p4 (ref10_Span_Live.l0 K k0) K x0 x3A x3n x3c x9 x10 w) ?_ ?_
              ·
                exact sh_sound _ _ _ _ (Eq.mp (by kernel_rfl) h)
              · intro σ w h
                obtain ⟨x0, e0, h⟩ := vP_elim h
                obtain ⟨x3A, x3n, x3c, e3, h⟩ := vS_elim h
                obtain ⟨x9, e9, h⟩ := vI_elim h
                obtain ⟨x10, e10, h⟩ := vI_elim h
                refine J.sub ?_ (((((Sub.base _).upd e0).upd e3).upd e9).upd e10)
                clear e0 e3 e9 e10
                refine J_seq (fun σ w => vP (σ 0) fun x0 => vS (σ 3) fun x3A x3n x3c => vI .i64 (σ 9) fun x9 => vI .i64 (σ 10) fun x10 => ref10_Span_Live.p5 (ref10_Span_Live.l0 K k0) K x0 x3A x3n x3c x9 x10 w) ?_ ?_
                ·
                  exact sh_sound _ _ _ _ (Eq.mp (by kernel_rfl) h)
                · intro σ w h
                  obtain ⟨x0, e0, h⟩ := vP_elim h
                  obtain ⟨x3A, x3n, x3c, e3, h⟩ := vS_elim h
                  obtain ⟨x9, e9, h⟩ := vI_elim h
                  obtain ⟨x10, e10, h⟩ := vI_elim h
                  refine J.sub ?_ (((((Sub.base _).upd e0).upd e3).upd e9).upd e10)
                  clear e0 e3 e9 e10
                  exact sh_sound _ _ _ _ (Eq.mp (by kernel_rfl) h)
      · intro σ w h
        obtain ⟨x3A, x3n, x3c, e3, h⟩ := vS_elim h
        refine J.sub ?_ ((Sub.base _).upd e3)
        clear e3
        exact sh_sound _ _ _ _ (Eq.mp (by kernel_rfl) h)

/-! ### (*hayloft/hayloftref10.Span).Size: function 31 -/
abbrev ref10_Span_Size.F (q0 : Option Addr) (K : Value → World → Prop) (w : World) : Prop :=
  ∃ (a1 : Addr), q0 = some a1 ∧ ∃ (n2 : Int), w.cell? (a1.add 1) = some (.int .i64 n2) ∧ condP (n2 == (7 : Int)) (∃ (a3 : Addr), q0 = some a3 ∧ ∃ (n4 : Int), w.cell? (a3.add 2) = some (.int .i64 n4) ∧ K (.int .i64 n4) w) (∃ (a5 : Addr), q0 = some a5 ∧ ∃ (n6 : Int), w.cell? (a5.add 1) = some (.int .i64 n6) ∧ CallsE Tryd.prog 52 #[.int .i64 n6] w (fun v7 w8 => ∃ (n9 : Int), v7 = .int .i64 n9 ∧ K (.int .i64 n9) w8))
theorem ref10_Span_Size.ok {q0 : Option Addr} {K : Value → World → Prop} {w : World} (h : ref10_Span_Size.F q0 K w) :
    CallsE Tryd.prog 31 #[.pointer q0] w K := by
  refine calls_of_J (n := 17) (rs := [.tmp 2]) Tryd.func31 rfl rfl rfl rfl ?_
  exact sh_sound _ _ _ _ (Eq.mp (by kernel_rfl) h)

/-! ### hayloft/hayloftref10.Pages: function 32 -/
abbrev ref10_Pages.F (q0 : Int) (q1 : Int) (K : Value → World → Prop) (w : World) : Prop :=
  condP (q0 == (7 : Int)) (CallsE Tryd.prog 53 #[.int .i64 q1] w (fun v1 w2 => ∃ (n3 : Int), v1 = .int .i64 n3 ∧ K (.int .i64 n3) w2)) (K (.int .i64 1) w)
theorem ref10_Pages.ok {q0 : Int} {q1 : Int} {K : Value → World → Prop} {w : World} (h : ref10_Pages.F q0 q1 K w) :
    CallsE Tryd.prog 32 #[.int .i64 q0, .int .i64 q1] w K := by
  refine calls_of_J (n := 9) (rs := [.tmp 4]) Tryd.func32 rfl rfl rfl rfl ?_
  exact sh_sound _ _ _ _ (Eq.mp (by kernel_rfl) h)

/-! ### hayloft/class.Size: function 33 -/
abbrev class_Size.p4 (K : Value → World → Prop) (x3 : Int) (w : World) : Prop :=
  K (.int .i64 x3) w
abbrev class_Size.p3 (K : Value → World → Prop) (x0 : Int) (x3 : Int) (w : World) : Prop :=
  (2 : Int) ≠ 0 ∧ condP ((Int.tmod x0 2) == (1 : Int)) ((2 : Int) ≠ 0 ∧ class_Size.p4 K (IntKind.wrap .i64 (x3 + (IntKind.wrap .i64 (Int.tdiv x3 2)))) w) (class_Size.p4 K x3 w)
abbrev class_Size.p2 (K : Value → World → Prop) (x0 : Int) (w : World) : Prop :=
  (2 : Int) ≠ 0 ∧ 0 ≤ (IntKind.wrap .i64 (Int.tdiv x0 2)) ∧ class_Size.p3 K x0 (ishl .i64 16 (IntKind.wrap .i64 (Int.tdiv x0 2))) w
abbrev class_Size.p1 (K : Value → World → Prop) (x0 : Int) (x9 : Bool) (w : World) : Prop :=
  condP x9 (K (.int .i64 0) w) (class_Size.p2 K x0 w)
abbrev class_Size.p0 (K : Value → World → Prop) (x0 : Int) (w : World) : Prop :=
  condP (decide (x0 < (0 : Int))) (class_Size.p1 K x0 true w) (class_Size.p1 K x0 (decide ((7 : Int) ≤ x0)) w)
abbrev class_Size.F (q0 : Int) (K : Value → World → Prop) (w : World) : Prop :=
  class_Size.p0 K q0 w
theorem class_Size.ok {q0 : Int} {K : Value → World → Prop} {w : World} (h : class_Size.F q0 K w) :
    CallsE Tryd.prog 33 #[.int .i64 q0] w K := by
  refine calls_of_J (n := 21) (rs := [.tmp 2]) Tryd.func33 rfl rfl rfl rfl ?_
  refine J_seq (fun σ w => vI .i64 (σ 0) fun x0 => class_Size.p0 K x0 w) ?_ ?_
  ·
    exact sh_sound _ _ _ _ (Eq.mp (by kernel_rfl) h)
  · intro σ w h
    obtain ⟨x0, e0, h⟩ := vI_elim h
    refine J.sub ?_ ((Sub.base _).upd e0)
    clear e0
    refine J_seq (fun σ w => vI .i64 (σ 0) fun x0 => class_Size.p2 K x0 w) ?_ ?_
    ·
      refine J_seq (fun σ w => vI .i64 (σ 0) fun x0 => vB (σ 9) fun x9 => class_Size.p1 K x0 x9 w) ?_ ?_
      ·
        exact sh_sound _ _ _ _ (Eq.mp (by kernel_rfl) h)
      · intro σ w h
        obtain ⟨x0, e0, h⟩ := vI_elim h
        obtain ⟨x9, e9, h⟩ := vB_elim h
        refine J.sub ?_ (((Sub.base _).upd e0).upd e9)
        clear e0 e9
        exact sh_sound _ _ _ _ (Eq.mp (by kernel_rfl) h)
    · intro σ w h
      obtain ⟨x0, e0, h⟩ := vI_elim h
      refine J.sub ?_ ((Sub.base _).upd e0)
      clear e0
      refine J_seq (fun σ w => vI .i64 (σ 0) fun x0 => vI .i64 (σ 3) fun x3 => class_Size.p3 K x0 x3 w) ?_ ?_
      ·
        exact sh_sound _ _ _ _ (Eq.mp (by kernel_rfl) h)
      · intro σ w h
        obtain ⟨x0, e0, h⟩ := vI_elim h
        obtain ⟨x3, e3, h⟩ := vI_elim h
        refine J.sub ?_ (((Sub.base _).upd e0).upd e3)
        clear e0 e3
        refine J_seq (fun σ w => vI .i64 (σ 3) fun x3 => class_Size.p4 K x3 w) ?_ ?_
        ·
          exact sh_sound _ _ _ _ (Eq.mp (by kernel_rfl) h)
        · intro σ w h
          obtain ⟨x3, e3, h⟩ := vI_elim h
          refine J.sub ?_ ((Sub.base _).upd e3)
          clear e3
          exact sh_sound _ _ _ _ (Eq.mp (by kernel_rfl) h)

/-! ### hayloft/class.Of: function 34 -/
abbrev class_Of.p10 (K : Value → World → Prop) (x3 : Int) (w : World) : Prop :=
  K (.int .i64 x3) w
abbrev class_Of.p9 (K : Value → World → Prop) (x3 : Int) (w : World) : Prop :=
  class_Of.p10 K (IntKind.wrap .i64 (x3 - (1 : Int))) w
abbrev class_Of.p8 (K : Value → World → Prop) (x3 : Int) (w : World) : Prop :=
  class_Of.p9 K (IntKind.wrap .i64 (x3 - (1 : Int))) w
abbrev class_Of.p7 (K : Value → World → Prop) (x3 : Int) (w : World) : Prop :=
  class_Of.p8 K (IntKind.wrap .i64 (x3 - (1 : Int))) w
abbrev class_Of.p6 (K : Value → World → Prop) (x3 : Int) (w : World) : Prop :=
  class_Of.p7 K (IntKind.wrap .i64 (x3 - (1 : Int))) w
abbrev class_Of.p5 (K : Value → World → Prop) (x3 : Int) (w : World) : Prop :=
  class_Of.p6 K (IntKind.wrap .i64 (x3 - (1 : Int))) w
abbrev class_Of.p4 (K : Value → World → Prop) (x3 : Int) (w : World) : Prop :=
  class_Of.p5 K (IntKind.wrap .i64 (x3 - (1 : Int))) w
abbrev class_Of.p3 (K : Value → World → Prop) (x0 : Int) (x3 : Int) (w : World) : Prop :=
  condP (decide (x0 ≤ (16 : Int))) (class_Of.p4 K (IntKind.wrap .i64 (x3 - (1 : Int))) w) (condP (decide (x0 ≤ (24 : Int))) (class_Of.p4 K x3 w) (condP (decide (x0 ≤ (32 : Int))) (class_Of.p5 K x3 w) (condP (decide (x0 ≤ (48 : Int))) (class_Of.p6 K x3 w) (condP (decide (x0 ≤ (64 : Int))) (class_Of.p7 K x3 w) (condP (decide (x0 ≤ (96 : Int))) (class_Of.p8 K x3 w) (condP (decide (x0 ≤ (128 : Int))) (class_Of.p9 K x3 w) (class_Of.p10 K x3 w)))))))
abbrev class_Of.p2 (K : Value → World → Prop) (x0 : Int) (w : World) : Prop :=
  class_Of.p3 K x0 7 w
abbrev class_Of.p1 (K : Value → World → Prop) (x0 : Int) (x9 : Bool) (w : World) : Prop :=
  condP x9 (K (.int .i64 (-1)) w) (class_Of.p2 K x0 w)
abbrev class_Of.p0 (K : Value → World → Prop) (x0 : Int) (w : World) : Prop :=
  condP (decide (x0 < (1 : Int))) (class_Of.p1 K x0 true w) (class_Of.p1 K x0 (decide ((4096 : Int) < x0)) w)
abbrev class_Of.F (q0 : Int) (K : Value → World → Prop) (w : World) : Prop :=
  class_Of.p0 K q0 w
theorem class_Of.ok {q0 : Int} {K : Value → World → Prop} {w : World} (h : class_Of.F q0 K w) :
    CallsE Tryd.prog 34 #[.int .i64 q0] w K := by
  refine calls_of_J (n := 46) (rs := [.tmp 2]) Tryd.func34 rfl rfl rfl rfl ?_
  refine J_seq (fun σ w => vI .i64 (σ 0) fun x0 => class_Of.p0 K x0 w) ?_ ?_
  ·
    exact sh_sound _ _ _ _ (Eq.mp (by kernel_rfl) h)
  · intro σ w h
    obtain ⟨x0, e0, h⟩ := vI_elim h
    refine J.sub ?_ ((Sub.base _).upd e0)
    clear e0
    refine J_seq (fun σ w => vI .i64 (σ 0) fun x0 => class_Of.p2 K x0 w) ?_ ?_
    ·
      refine J_seq (fun σ w => vI .i64 (σ 0) fun x0 => vB (σ 9) fun x9 => class_Of.p1 K x0 x9 w) ?_ ?_
      ·
        exact sh_sound _ _ _ _ (Eq.mp (by kernel_rfl) h)
      · intro σ w h
        obtain ⟨x0, e0, h⟩ := vI_elim h
        obtain ⟨x9, e9, h⟩ := vB_elim h
        refine J.sub ?_ (((Sub.base _).upd e0).upd e9)
        clear e0 e9
        exact sh_sound _ _ _ _ (Eq.mp (by kernel_rfl) h)
    · intro σ w h
      obtain ⟨x0, e0, h⟩ := vI_elim h
      refine J.sub ?_ ((Sub.base _).upd e0)
      clear e0
      refine J_seq (fun σ w => vI .i64 (σ 0) fun x0 => vI .i64 (σ 3) fun x3 => class_Of.p3 K x0 x3 w) ?_ ?_
      ·
        exact sh_sound _ _ _ _ (Eq.mp (by kernel_rfl) h)
      · intro σ w h
        obtain ⟨x0, e0, h⟩ := vI_elim h
        obtain ⟨x3, e3, h⟩ := vI_elim h
        refine J.sub ?_ (((Sub.base _).upd e0).upd e3)
        clear e0 e3
        refine J_seq (fun σ w => vI .i64 (σ 3) fun x3 => class_Of.p10 K x3 w) ?_ ?_
        ·
          refine J_block ?_
          refine J_seq (fun σ w => vI .i64 (σ 3) fun x3 => class_Of.p9 K x3 w) ?_ ?_
          ·
            refine J_block ?_
            refine J_seq (fun σ w => vI .i64 (σ 3) fun x3 => class_Of.p8 K x3 w) ?_ ?_
            ·
              refine J_block ?_
              refine J_seq (fun σ w => vI .i64 (σ 3) fun x3 => class_Of.p7 K x3 w) ?_ ?_
              ·
                refine J_block ?_
                refine J_seq (fun σ w => vI .i64 (σ 3) fun x3 => class_Of.p6 K x3 w) ?_ ?_
                ·
                  refine J_block ?_
                  refine J_seq (fun σ w => vI .i64 (σ 3) fun x3 => class_Of.p5 K x3 w) ?_ ?_
                  ·
                    refine J_block ?_
                    refine J_seq (fun σ w => vI .i64 (σ 3) fun x3 => class_Of.p4 K x3 w) ?_ ?_
                    ·
                      exact sh_sound _ _ _ _ (Eq.mp (by kernel_rfl) h)
                    · intro σ w h
                      obtain ⟨x3, e3, h⟩ := vI_elim h
                      refine J.sub ?_ ((Sub.base _).upd e3)
                      clear e3
                      exact sh_sound _ _ _ _ (Eq.mp (by kernel_rfl) h)
                  · intro σ w h
                    obtain ⟨x3, e3, h⟩ := vI_elim h
                    refine J.sub ?_ ((Sub.base _).upd e3)
                    clear e3
                    exact sh_sound _ _ _ _ (Eq.mp (by kernel_rfl) h)
                · intro σ w h
                  obtain ⟨x3, e3, h⟩ := vI_elim h
                  refine J.sub ?_ ((Sub.base _).upd e3)
                  clear e3
                  exact sh_sound _ _ _ _ (Eq.mp (by kernel_rfl) h)
              · intro σ w h
                obtain ⟨x3, e3, h⟩ := vI_elim h
                refine J.sub ?_ ((Sub.base _).upd e3)
                clear e3
                exact sh_sound _ _ _ _ (Eq.mp (by kernel_rfl) h)
            · intro σ w h
              obtain ⟨x3, e3, h⟩ := vI_elim h
              refine J.sub ?_ ((Sub.base _).upd e3)
              clear e3
              exact sh_sound _ _ _ _ (Eq.mp (by kernel_rfl) h)
          · intro σ w h
            obtain ⟨x3, e3, h⟩ := vI_elim h
            refine J.sub ?_ ((Sub.base _).upd e3)
            clear e3
            exact sh_sound _ _ _ _ (Eq.mp (by kernel_rfl) h)
        · intro σ w h
          obtain ⟨x3, e3, h⟩ := vI_elim h
          refine J.sub ?_ ((Sub.base _).upd e3)
          clear e3
          exact sh_sound _ _ _ _ (Eq.mp (by kernel_rfl) h)

/-! ### hayloft/class.Pages: function 35 -/
abbrev class_Pages.F (q0 : Int) (K : Value → World → Prop) (w : World) : Prop :=
  CallsE Tryd.prog 34 #[.int .i64 q0] w (fun v1 w2 => ∃ (n3 : Int), v1 = .int .i64 n3 ∧ condP (decide (n3 < (0 : Int))) (K (.int .i64 0) w2) (condP (decide (n3 < (7 : Int))) (K (.int .i64 1) w2) ((256 : Int) ≠ 0 ∧ K (.int .i64 (IntKind.wrap .i64 (Int.tdiv (IntKind.wrap .i64 ((IntKind.wrap .i64 (q0 + (256 : Int))) - (1 : Int))) 256))) w2)))
theorem class_Pages.ok {q0 : Int} {K : Value → World → Prop} {w : World} (h : class_Pages.F q0 K w) :
    CallsE Tryd.prog 35 #[.int .i64 q0] w K := by
  refine calls_of_J (n := 16) (rs := [.tmp 2]) Tryd.func35 rfl rfl rfl rfl ?_
  exact sh_sound _ _ _ _ (Eq.mp (by kernel_rfl) h)

/-! ### hayloft/set.New: function 36 -/
abbrev set_New.F (q0 : Int) (K : Value → World → Prop) (w : World) : Prop :=
  (64 : Int) ≠ 0 ∧ (0 ≤ (IntKind.wrap .i64 (Int.tdiv (IntKind.wrap .i64 ((imax 0 (imin q0 65536)) + (63 : Int))) 64)) ∧ (IntKind.wrap .i64 (Int.tdiv (IntKind.wrap .i64 ((imax 0 (imin q0 65536)) + (63 : Int))) 64)) ≤ (IntKind.wrap .i64 (Int.tdiv (IntKind.wrap .i64 ((imax 0 (imin q0 65536)) + (63 : Int))) 64)) ∧ (8 : Int) * (IntKind.wrap .i64 (Int.tdiv (IntKind.wrap .i64 ((imax 0 (imin q0 65536)) + (63 : Int))) 64)) ≤ 281474976710656 ∧ (IntKind.wrap .i64 (Int.tdiv (IntKind.wrap .i64 ((imax 0 (imin q0 65536)) + (63 : Int))) 64)) ≤ 9223372036854775807) ∧ wlet (w.alloc (.cells (madeCells #[.int .u64 0] ((IntKind.wrap .i64 (Int.tdiv (IntKind.wrap .i64 ((imax 0 (imin q0 65536)) + (63 : Int))) 64)).toNat * 1)) 64)) fun w1 => wlet (w1.alloc (.cells #[.int .i64 (imax 0 (imin q0 65536)), .slice (some ⟨w.heap.size, 0, none⟩) ((IntKind.wrap .i64 (Int.tdiv (IntKind.wrap .i64 ((imax 0 (imin q0 65536)) + (63 : Int))) 64)).toNat) ((IntKind.wrap .i64 (Int.tdiv (IntKind.wrap .i64 ((imax 0 (imin q0 65536)) + (63 : Int))) 64)).toNat)] 63)) fun w2 => K (.pointer (some (⟨w1.heap.size, 0, none⟩))) w2
theorem set_New.ok {q0 : Int} {K : Value → World → Prop} {w : World} (h : set_New.F q0 K w) :
    CallsE Tryd.prog 36 #[.int .i64 q0] w K := by
  refine calls_of_J (n := 13) (rs := [.tmp 2]) Tryd.func36 rfl rfl rfl rfl ?_
  exact sh_sound _ _ _ _ (Eq.mp (by kernel_rfl) h)

/-! ### hayloft/class.Slots: function 37 -/
abbrev class_Slots.F (q0 : Int) (K : Value → World → Prop) (w : World) : Prop :=
  condP (q0 == (7 : Int)) (K (.int .i64 1) w) (CallsE Tryd.prog 33 #[.int .i64 q0] w (fun v1 w2 => ∃ (n3 : Int), v1 = .int .i64 n3 ∧ condP (decide ((0 : Int) < n3)) (n3 ≠ 0 ∧ K (.int .i64 (IntKind.wrap .i64 (Int.tdiv 256 n3))) w2) (K (.int .i64 0) w2)))
theorem class_Slots.ok {q0 : Int} {K : Value → World → Prop} {w : World} (h : class_Slots.F q0 K w) :
    CallsE Tryd.prog 37 #[.int .i64 q0] w K := by
  refine calls_of_J (n := 12) (rs := [.tmp 2]) Tryd.func37 rfl rfl rfl rfl ?_
  exact sh_sound _ _ _ _ (Eq.mp (by kernel_rfl) h)

/-! ### (hayloft/span.taken).Slots: function 38 -/
abbrev span_taken_Slots.F (q0_0 : Option Addr) (K : Value → World → Prop) (w : World) : Prop :=
  wlet (w.alloc (.cells #[.pointer q0_0] 57)) fun w1 => ∃ (p2 : Option Addr), w1.cell? (⟨w.heap.size, 0, none⟩) = some (.pointer p2) ∧ CallsE Tryd.prog 54 #[.pointer p2] w1 (fun v3 w4 => ∃ (n5 : Int), v3 = .int .i64 n5 ∧ K (.int .i64 n5) w4)
theorem span_taken_Slots.ok {q0_0 : Option Addr} {K : Value → World → Prop} {w : World} (h : span_taken_Slots.F q0_0 K w) :
    CallsE Tryd.prog 38 #[.agg #[.pointer q0_0]] w K := by
  refine calls_of_J (n := 6) (rs := [.tmp 2]) Tryd.func38 rfl rfl rfl rfl ?_
  exact sh_sound _ _ _ _ (Eq.mp (by kernel_rfl) h)

/-! ### (*hayloft/set.Set).Add: function 39 -/
abbrev set_Set_Add.p3 (K : Value → World → Prop) (w : World) : Prop :=
  K (.bool true) w
abbrev set_Set_Add.p2 (K : Value → World → Prop) (x0 : Option Addr) (x1 : Int) (w : World) : Prop :=
  ∃ (S1 : Array Obj → Prop), S1 w.heap ∧ ∃ (a2 : Addr), x0 = some a2 ∧ (64 : Int) ≠ 0 ∧ (64 : Int) ≠ 0 ∧ 0 ≤ (Int.tmod x1 64) ∧ ∃ (A3 : Option Addr) (m4 : Nat) (c5 : Nat), (∀ w' : World, S1 w'.heap → w'.cell? (a2.add 1) = some (.slice A3 m4 c5)) ∧ (0 ≤ (IntKind.wrap .i64 (Int.tdiv x1 64)) ∧ (IntKind.wrap .i64 (Int.tdiv x1 64)) < ((m4 : Nat) : Int)) ∧ ∃ (a6 : Addr), A3 = some a6 ∧ ∃ (n7 : Int), (∀ w' : World, S1 w'.heap → w'.cell? (a6.add ((IntKind.wrap .i64 (Int.tdiv x1 64)).toNat)) = some (.int .u64 n7)) ∧ (0 ≤ (IntKind.wrap .i64 (Int.tdiv x1 64)) ∧ (IntKind.wrap .i64 (Int.tdiv x1 64)) < ((m4 : Nat) : Int)) ∧ ∃ (a8 : Addr), A3 = some a8 ∧ canStore w (a8.add ((IntKind.wrap .i64 (Int.tdiv x1 64)).toNat)) ∧ wlet (w.setCell (a8.add ((IntKind.wrap .i64 (Int.tdiv x1 64)).toNat)) (.int .u64 (ibits .or .u64 n7 (ishl .u64 1 (Int.tmod x1 64))))) fun w9 => set_Set_Add.p3 K w9
abbrev set_Set_Add.p1 (K : Value → World → Prop) (x0 : Option Addr) (x1 : Int) (x17 : Bool) (w : World) : Prop :=
  condP x17 (K (.bool false) w) (set_Set_Add.p2 K x0 x1 w)
abbrev set_Set_Add.p0 (K : Value → World → Prop) (x0 : Option Addr) (x1 : Int) (w : World) : Prop :=
  condP (decide (x1 < (0 : Int))) (set_Set_Add.p1 K x0 x1 true w) (CallsE Tryd.prog 54 #[.pointer x0] w (fun v10 w11 => ∃ (n12 : Int), v10 = .int .i64 n12 ∧ condP (decide (n12 ≤ x1)) (set_Set_Add.p1 K x0 x1 true w11) (CallsE Tryd.prog 55 #[.pointer x0, .int .i64 x1] w11 (fun v13 w14 => ∃ (b15 : Bool), v13 = .bool b15 ∧ set_Set_Add.p1 K x0 x1 b15 w14))))
abbrev set_Set_Add.F (q0 : Option Addr) (q1 : Int) (K : Value → World → Prop) (w : World) : Prop :=
  set_Set_Add.p0 K q0 q1 w
theorem set_Set_Add.ok {q0 : Option Addr} {q1 : Int} {K : Value → World → Prop} {w : World} (h : set_Set_Add.F q0 q1 K w) :
    CallsE Tryd.prog 39 #[.pointer q0, .int .i64 q1] w K := by
  refine calls_of_J (n := 31) (rs := [.tmp 4]) Tryd.func39 rfl rfl rfl rfl ?_
  refine J_seq (fun σ w => vP (σ 0) fun x0 => vI .i64 (σ 1) fun x1 => set_Set_Add.p0 K x0 x1 w) ?_ ?_
  ·
    exact sh_sound _ _ _ _ (Eq.mp (by kernel_rfl) h)
  · intro σ w h
    obtain ⟨x0, e0, h⟩ := vP_elim h
    obtain ⟨x1, e1, h⟩ := vI_elim h
    refine J.sub ?_ (((Sub.base _).upd e0).upd e1)
    clear e0 e1
    refine J_seq (fun σ w => vP (σ 0) fun x0 => vI .i64 (σ 1) fun x1 => set_Set_Add.p2 K x0 x1 w) ?_ ?_
    ·
      refine J_seq (fun σ w => vP (σ 0) fun x0 => vI .i64 (σ 1) fun x1 => vB (σ 17) fun x17 => set_Set_Add.p1 K x0 x1 x17 w) ?_ ?_
      ·
        exact sh_sound _ _ _ _ (Eq.mp (by kernel_rfl) h)
      · intro σ w h
        obtain ⟨x0, e0, h⟩ := vP_elim h
        obtain ⟨x1, e1, h⟩ := vI_elim h
        obtain ⟨x17, e17, h⟩ := vB_elim h
        refine J.sub ?_ ((((Sub.base _).upd e0).upd e1).upd e17)
        clear e0 e1 e17
        exact sh_sound _ _ _ _ (Eq.mp (by kernel_rfl) h)
    · intro σ w h
      obtain ⟨x0, e0, h⟩ := vP_elim h
      obtain ⟨x1, e1, h⟩ := vI_elim h
      refine J.sub ?_ (((Sub.base _).upd e0).upd e1)
      clear e0 e1
      refine J_seq (fun σ w => set_Set_Add.p3 K w) ?_ ?_
      ·
        exact J_held [13] [(0, 0), (1, 0), (2, 0), (4, 0), (5, 0), (8, 0), (9, 0), (10, 0), (3, 1), (6, 0), (7, 1), (11, 0), (12, 0), (13, 3)] (by kernel_rfl) (Eq.mp (by kernel_rfl) h)
      · intro σ w h
        refine J.sub ?_ (Sub.base _)
        exact sh_sound _ _ _ _ (Eq.mp (by kernel_rfl) h)

/-! ### (*hayloft/set.Set).List: function 40 -/
abbrev set_Set_List.p3 (K : Value → World → Prop) (x3A : Option Addr) (x3n : Nat) (x3c : Nat) (w : World) : Prop :=
  K (.slice x3A x3n x3c) w
abbrev set_Set_List.b0 (L0 : Option Addr → Option Addr → Nat → Nat → Int → World → Prop) (K : Value → World → Prop) (x0 : Option Addr) (x3A : Option Addr) (x3n : Nat) (x3c : Nat) (x4 : Int) (w : World) : Prop :=
  condP (decide ((0 : Int) ≤ x4)) (wlet (w.alloc (.cells #[.int .i64 x4] 3)) fun w4 => SemJ Tryd.prog (Builtin.append_ #[31, 31] 31 #[.slice x3A x3n x3c, .slice (some ⟨w.heap.size, 0, none⟩) 1 1]) (fun v5 w6 => ∃ (A7 : Option Addr) (m8 : Nat) (c9 : Nat), v5 = .slice A7 m8 c9 ∧ CallsE Tryd.prog 56 #[.pointer x0, .int .i64 (IntKind.wrap .i64 (x4 + (1 : Int)))] w6 (fun v10 w11 => ∃ (n12 : Int), v10 = .int .i64 n12 ∧ L0 x0 A7 m8 c9 n12 w11)) w4) (set_Set_List.p3 K x3A x3n x3c w)
def set_Set_List.l0 (K : Value → World → Prop) (k : Nat) : Option Addr → Option Addr → Nat → Nat → Int → World → Prop :=
  Nat.rec (motive := fun _ => Option Addr → Option Addr → Nat → Nat → Int → World → Prop) (fun _ _ _ _ _ _ => False) (fun _ ih => set_Set_List.b0 ih K) k
theorem set_Set_List.l0_succ (K : Value → World → Prop) (k : Nat) (x0 : Option Addr) (x3A : Option Addr) (x3n : Nat) (x3c : Nat) (x4 : Int) (w : World) : set_Set_List.l0 K (k + 1) x0 x3A x3n x3c x4 w = set_Set_List.b0 (set_Set_List.l0 K k) K x0 x3A x3n x3c x4 w := rfl
abbrev set_Set_List.p2 (K : Value → World → Prop) (x0 : Option Addr) (x3A : Option Addr) (x3n : Nat) (x3c : Nat) (x4 : Int) (w : World) : Prop :=
  ∃ k, set_Set_List.l0 K k x0 x3A x3n x3c x4 w
abbrev set_Set_List.p1 (K : Value → World → Prop) (x0 : Option Addr) (x3A : Option Addr) (x3n : Nat) (x3c : Nat) (w : World) : Prop :=
  CallsE Tryd.prog 56 #[.pointer x0, .int .i64 0] w (fun v1 w2 => ∃ (n3 : Int), v1 = .int .i64 n3 ∧ set_Set_List.p2 K x0 x3A x3n x3c n3 w2)
abbrev set_Set_List.p0 (K : Value → World → Prop) (x0 : Option Addr) (w : World) : Prop :=
  set_Set_List.p1 K x0 none 0 0 w
abbrev set_Set_List.F (q0 : Option Addr) (K : Value → World → Prop) (w : World) : Prop :=
  set_Set_List.p0 K q0 w
theorem set_Set_List.ok {q0 : Option Addr} {K : Value → World → Prop} {w : World} (h : set_Set_List.F q0 K w) :
    CallsE Tryd.prog 40 #[.pointer q0] w K := by
  refine calls_of_J (n := 18) (rs := [.tmp 2]) Tryd.func40 rfl rfl rfl rfl ?_
  refine J_seq (fun σ w => vP (σ 0) fun x0 => set_Set_List.p0 K x0 w) ?_ ?_
  ·
    exact sh_sound _ _ _ _ (Eq.mp (by kernel_rfl) h)
  · intro σ w h
    obtain ⟨x0, e0, h⟩ := vP_elim h
    refine J.sub ?_ ((Sub.base _).upd e0)
    clear e0
    refine J_seq (fun σ w => vP (σ 0) fun x0 => vS (σ 3) fun x3A x3n x3c => set_Set_List.p1 K x0 x3A x3n x3c w) ?_ ?_
    ·
      exact sh_sound _ _ _ _ (Eq.mp (by kernel_rfl) h)
    · intro σ w h
      obtain ⟨x0, e0, h⟩ := vP_elim h
      obtain ⟨x3A, x3n, x3c, e3, h⟩ := vS_elim h
      refine J.sub ?_ (((Sub.base _).upd e0).upd e3)
      clear e0 e3
      refine J_seq (fun σ w => vS (σ 3) fun x3A x3n x3c => set_Set_List.p3 K x3A x3n x3c w) ?_ ?_
      ·
        refine J_seq (fun σ w => vP (σ 0) fun x0 => vS (σ 3) fun x3A x3n x3c => vI .i64 (σ 4) fun x4 => set_Set_List.p2 K x0 x3A x3n x3c x4 w) ?_ ?_
        ·
          exact sh_sound _ _ _ _ (Eq.mp (by kernel_rfl) h)
        · intro σ w h
          obtain ⟨x0, e0, h⟩ := vP_elim h
          obtain ⟨x3A, x3n, x3c, e3, h⟩ := vS_elim h
          obtain ⟨x4, e4, h⟩ := vI_elim h
          refine J.sub ?_ ((((Sub.base _).upd e0).upd e3).upd e4)
          clear e0 e3 e4
          refine J_block ?_
          refine J_loop (fun k σ w => vP (σ 0) fun x0 => vS (σ 3) fun x3A x3n x3c => vI .i64 (σ 4) fun x4 => set_Set_List.l0 K k x0 x3A x3n x3c x4 w) (Eq.mp (by kernel_rfl) h) ?_ ?_
          · intro σ w h
            obtain ⟨x0, e0, h⟩ := vP_elim h
            obtain ⟨x3A, x3n, x3c, e3, h⟩ := vS_elim h
            obtain ⟨x4, e4, h⟩ := vI_elim h
            exact h
          · intro k0 σ w h
            obtain ⟨x0, e0, h⟩ := vP_elim h
            obtain ⟨x3A, x3n, x3c, e3, h⟩ := vS_elim h
            obtain ⟨x4, e4, h⟩ := vI_elim h
            refine J.sub ?_ ((((Sub.base _).upd e0).upd e3).upd e4)
            clear e0 e3 e4
            exact sh_sound _ _ _ _ (Eq.mp (by kernel_rfl) h)
      · intro σ w h
        obtain ⟨x3A, x3n, x3c, e3, h⟩ := vS_elim h
        refine J.sub ?_ ((Sub.base _).upd e3)
        clear e3
        exact sh_sound _ _ _ _ (Eq.mp (by kernel_rfl) h)

/-! ### (*hayloft/set.Set).Gap: function 41 -/
abbrev set_Set_Gap.F (q0 : Option Addr) (q1 : Int) (K : Value → World → Prop) (w : World) : Prop :=
  CallsE Tryd.prog 57 #[.pointer q0, .int .i64 q1, .int .u64 18446744073709551615] w (fun v1 w2 => ∃ (n3 : Int), v1 = .int .i64 n3 ∧ K (.int .i64 n3) w2)
theorem set_Set_Gap.ok {q0 : Option Addr} {q1 : Int} {K : Value → World → Prop} {w : World} (h : set_Set_Gap.F q0 q1 K w) :
    CallsE Tryd.prog 41 #[.pointer q0, .int .i64 q1] w K := by
  refine calls_of_J (n := 8) (rs := [.tmp 4]) Tryd.func41 rfl rfl rfl rfl ?_
  exact sh_sound _ _ _ _ (Eq.mp (by kernel_rfl) h)

/-! ### (*hayloft/set.Set).Del: function 42 -/
abbrev set_Set_Del.p2 (K : Value → World → Prop) (w : World) : Prop :=
  K (.bool true) w
abbrev set_Set_Del.p1 (K : Value → World → Prop) (x0 : Option Addr) (x1 : Int) (w : World) : Prop :=
  ∃ (S4 : Array Obj → Prop), S4 w.heap ∧ ∃ (a5 : Addr), x0 = some a5 ∧ (64 : Int) ≠ 0 ∧ (64 : Int) ≠ 0 ∧ 0 ≤ (Int.tmod x1 64) ∧ ∃ (A6 : Option Addr) (m7 : Nat) (c8 : Nat), (∀ w' : World, S4 w'.heap → w'.cell? (a5.add 1) = some (.slice A6 m7 c8)) ∧ (0 ≤ (IntKind.wrap .i64 (Int.tdiv x1 64)) ∧ (IntKind.wrap .i64 (Int.tdiv x1 64)) < ((m7 : Nat) : Int)) ∧ ∃ (a9 : Addr), A6 = some a9 ∧ ∃ (n10 : Int), (∀ w' : World, S4 w'.heap → w'.cell? (a9.add ((IntKind.wrap .i64 (Int.tdiv x1 64)).toNat)) = some (.int .u64 n10)) ∧ (0 ≤ (IntKind.wrap .i64 (Int.tdiv x1 64)) ∧ (IntKind.wrap .i64 (Int.tdiv x1 64)) < ((m7 : Nat) : Int)) ∧ ∃ (a11 : Addr), A6 = some a11 ∧ canStore w (a11.add ((IntKind.wrap .i64 (Int.tdiv x1 64)).toNat)) ∧ wlet (w.setCell (a11.add ((IntKind.wrap .i64 (Int.tdiv x1 64)).toNat)) (.int .u64 (ibits .andNot .u64 n10 (ishl .u64 1 (Int.tmod x1 64))))) fun w12 => set_Set_Del.p2 K w12
abbrev set_Set_Del.p0 (K : Value → World → Prop) (x0 : Option Addr) (x1 : Int) (w : World) : Prop :=
  CallsE Tryd.prog 55 #[.pointer x0, .int .i64 x1] w (fun v1 w2 => ∃ (b3 : Bool), v1 = .bool b3 ∧ condP (!b3) (K (.bool false) w2) (set_Set_Del.p1 K x0 x1 w2))
abbrev set_Set_Del.F (q0 : Option Addr) (q1 : Int) (K : Value → World → Prop) (w : World) : Prop :=
  set_Set_Del.p0 K q0 q1 w
theorem set_Set_Del.ok {q0 : Option Addr} {q1 : Int} {K : Value → World → Prop} {w : World} (h : set_Set_Del.F q0 q1 K w) :
    CallsE Tryd.prog 42 #[.pointer q0, .int .i64 q1] w K := by
  refine calls_of_J (n := 22) (rs := [.tmp 4]) Tryd.func42 rfl rfl rfl rfl ?_
  refine J_seq (fun σ w => vP (σ 0) fun x0 => vI .i64 (σ 1) fun x1 => set_Set_Del.p0 K x0 x1 w) ?_ ?_
  ·
    exact sh_sound _ _ _ _ (Eq.mp (by kernel_rfl) h)
  · intro σ w h
    obtain ⟨x0, e0, h⟩ := vP_elim h
    obtain ⟨x1, e1, h⟩ := vI_elim h
    refine J.sub ?_ (((Sub.base _).upd e0).upd e1)
    clear e0 e1
    refine J_seq (fun σ w => vP (σ 0) fun x0 => vI .i64 (σ 1) fun x1 => set_Set_Del.p1 K x0 x1 w) ?_ ?_
    ·
      exact sh_sound _ _ _ _ (Eq.mp (by kernel_rfl) h)
    · intro σ w h
      obtain ⟨x0, e0, h⟩ := vP_elim h
      obtain ⟨x1, e1, h⟩ := vI_elim h
      refine J.sub ?_ (((Sub.base _).upd e0).upd e1)
      clear e0 e1
      refine J_seq (fun σ w => set_Set_Del.p2 K w) ?_ ?_
      ·
        exact J_held [13] [(0, 0), (1, 0), (2, 0), (4, 0), (5, 0), (8, 0), (9, 0), (10, 0), (3, 1), (6, 0), (7, 1), (11, 0), (12, 0), (13, 3)] (by kernel_rfl) (Eq.mp (by kernel_rfl) h)
      · intro σ w h
        refine J.sub ?_ (Sub.base _)
        exact sh_sound _ _ _ _ (Eq.mp (by kernel_rfl) h)

/-! ### (hayloft/span.taken).Live: function 43 -/
abbrev span_taken_Live.F (q0_0 : Option Addr) (K : Value → World → Prop) (w : World) : Prop :=
  wlet (w.alloc (.cells #[.pointer q0_0] 57)) fun w1 => ∃ (p2 : Option Addr), w1.cell? (⟨w.heap.size, 0, none⟩) = some (.pointer p2) ∧ CallsE Tryd.prog 58 #[.pointer p2] w1 (fun v3 w4 => ∃ (n5 : Int), v3 = .int .i64 n5 ∧ K (.int .i64 n5) w4)
theorem span_taken_Live.ok {q0_0 : Option Addr} {K : Value → World → Prop} {w : World} (h : span_taken_Live.F q0_0 K w) :
    CallsE Tryd.prog 43 #[.agg #[.pointer q0_0]] w K := by
  refine calls_of_J (n := 6) (rs := [.tmp 2]) Tryd.func43 rfl rfl rfl rfl ?_
  exact sh_sound _ _ _ _ (Eq.mp (by kernel_rfl) h)

/-! ### (hayloft/span.taken).Has: function 44 -/
abbrev span_taken_Has.F (q0_0 : Option Addr) (q1 : Int) (K : Value → World → Prop) (w : World) : Prop :=
  wlet (w.alloc (.cells #[.pointer q0_0] 57)) fun w1 => ∃ (p2 : Option Addr), w1.cell? (⟨w.heap.size, 0, none⟩) = some (.pointer p2) ∧ CallsE Tryd.prog 55 #[.pointer p2, .int .i64 q1] w1 (fun v3 w4 => ∃ (b5 : Bool), v3 = .bool b5 ∧ K (.bool b5) w4)
theorem span_taken_Has.ok {q0_0 : Option Addr} {q1 : Int} {K : Value → World → Prop} {w : World} (h : span_taken_Has.F q0_0 q1 K w) :
    CallsE Tryd.prog 44 #[.agg #[.pointer q0_0], .int .i64 q1] w K := by
  refine calls_of_J (n := 9) (rs := [.tmp 4]) Tryd.func44 rfl rfl rfl rfl ?_
  exact sh_sound _ _ _ _ (Eq.mp (by kernel_rfl) h)

/-! ### hayloft/hayloftref06.Of: function 45 -/
abbrev ref06_Of.p4 (K : Value → World → Prop) (w : World) : Prop :=
  K (.int .i64 7) w
abbrev ref06_Of.b0 (L0 : Int → Int → World → Prop) (K : Value → World → Prop) (x0 : Int) (x3 : Int) (w : World) : Prop :=
  condP (decide (x3 < (7 : Int))) (CallsE Tryd.prog 52 #[.int .i64 x3] w (fun v1 w2 => ∃ (n3 : Int), v1 = .int .i64 n3 ∧ condP (decide (x0 ≤ n3)) (K (.int .i64 x3) w2) (L0 x0 (IntKind.wrap .i64 (x3 + (1 : Int))) w2))) (ref06_Of.p4 K w)
def ref06_Of.l0 (K : Value → World → Prop) (k : Nat) : Int → Int → World → Prop :=
  Nat.rec (motive := fun _ => Int → Int → World → Prop) (fun _ _ _ => False) (fun _ ih => ref06_Of.b0 ih K) k
theorem ref06_Of.l0_succ (K : Value → World → Prop) (k : Nat) (x0 : Int) (x3 : Int) (w : World) : ref06_Of.l0 K (k + 1) x0 x3 w = ref06_Of.b0 (ref06_Of.l0 K k) K x0 x3 w := rfl
abbrev ref06_Of.p3 (K : Value → World → Prop) (x0 : Int) (x3 : Int) (w : World) : Prop :=
  ∃ k, ref06_Of.l0 K k x0 x3 w
abbrev ref06_Of.p2 (K : Value → World → Prop) (x0 : Int) (w : World) : Prop :=
  ref06_Of.p3 K x0 0 w
abbrev ref06_Of.p1 (K : Value → World → Prop) (x0 : Int) (x9 : Bool) (w : World) : Prop :=
  condP x9 (K (.int .i64 (-1)) w) (ref06_Of.p2 K x0 w)
abbrev ref06_Of.p0 (K : Value → World → Prop) (x0 : Int) (w : World) : Prop :=
  condP (decide (x0 < (1 : Int))) (ref06_Of.p1 K x0 true w) (ref06_Of.p1 K x0 (decide ((4096 : Int) < x0)) w)
abbrev ref06_Of.F (q0 : Int) (K : Value → World → Prop) (w : World) : Prop :=
  ref06_Of.p0 K q0 w
theorem ref06_Of.ok {q0 : Int} {K : Value → World → Prop} {w : World} (h : ref06_Of.F q0 K w) :
    CallsE Tryd.prog 45 #[.int .i64 q0] w K := by
  refine calls_of_J (n := 19) (rs := [.tmp 2]) Tryd.func45 rfl rfl rfl rfl ?_
  refine J_seq (fun σ w => vI .i64 (σ 0) fun x0 => ref06_Of.p0 K x0 w) ?_ ?_
  ·
    exact sh_sound _ _ _ _ (Eq.mp (by kernel_rfl) h)
  · intro σ w h
    obtain ⟨x0, e0, h⟩ := vI_elim h
    refine J.sub ?_ ((Sub.base _).upd e0)
    clear e0
    refine J_seq (fun σ w => vI .i64 (σ 0) fun x0 => ref06_Of.p2 K x0 w) ?_ ?_
    ·
      refine J_seq (fun σ w => vI .i64 (σ 0) fun x0 => vB (σ 9) fun x9 => ref06_Of.p1 K x0 x9 w) ?_ ?_
      ·
        exact sh_sound _ _ _ _ (Eq.mp (by kernel_rfl) h)
      · intro σ w h
        obtain ⟨x0, e0, h⟩ := vI_elim h
        obtain ⟨x9, e9, h⟩ := vB_elim h
        refine J.sub ?_ (((Sub.base _).upd e0).upd e9)
        clear e0 e9
        exact sh_sound _ _ _ _ (Eq.mp (by kernel_rfl) h)
    · intro σ w h
      obtain ⟨x0, e0, h⟩ := vI_elim h
      refine J.sub ?_ ((Sub.base _).upd e0)
      clear e0
      refine J_seq (fun σ w => ref06_Of.p4 K w) ?_ ?_
      ·
        refine J_seq (fun σ w => vI .i64 (σ 0) fun x0 => vI .i64 (σ 3) fun x3 => ref06_Of.p3 K x0 x3 w) ?_ ?_
        ·
          exact sh_sound _ _ _ _ (Eq.mp (by kernel_rfl) h)
        · intro σ w h
          obtain ⟨x0, e0, h⟩ := vI_elim h
          obtain ⟨x3, e3, h⟩ := vI_elim h
          refine J.sub ?_ (((Sub.base _).upd e0).upd e3)
          clear e0 e3
          refine J_block ?_
          refine J_loop (fun k σ w => vI .i64 (σ 0) fun x0 => vI .i64 (σ 3) fun x3 => ref06_Of.l0 K k x0 x3 w) (Eq.mp (by kernel_rfl) h) ?_ ?_
          · intro σ w h
            obtain ⟨x0, e0, h⟩ := vI_elim h
            obtain ⟨x3, e3, h⟩ := vI_elim h
            exact h
          · intro k0 σ w h
            obtain ⟨x0, e0, h⟩ := vI_elim h
            obtain ⟨x3, e3, h⟩ := vI_elim h
            refine J.sub ?_ (((Sub.base _).upd e0).upd e3)
            clear e0 e3
            exact sh_sound _ _ _ _ (Eq.mp (by kernel_rfl) h)
      · intro σ w h
        refine J.sub ?_ (Sub.base _)
        exact sh_sound _ _ _ _ (Eq.mp (by kernel_rfl) h)

/-! ### hayloft/hayloftref06.Slots: function 46 -/
abbrev ref06_Slots.F (q0 : Int) (K : Value → World → Prop) (w : World) : Prop :=
  condP (q0 == (7 : Int)) (K (.int .i64 1) w) (CallsE Tryd.prog 52 #[.int .i64 q0] w (fun v1 w2 => ∃ (n3 : Int), v1 = .int .i64 n3 ∧ condP (n3 == (0 : Int)) (K (.int .i64 0) w2) (CallsE Tryd.prog 52 #[.int .i64 q0] w2 (fun v4 w5 => ∃ (n6 : Int), v4 = .int .i64 n6 ∧ n6 ≠ 0 ∧ K (.int .i64 (IntKind.wrap .i64 (Int.tdiv 256 n6))) w5))))
theorem ref06_Slots.ok {q0 : Int} {K : Value → World → Prop} {w : World} (h : ref06_Slots.F q0 K w) :
    CallsE Tryd.prog 46 #[.int .i64 q0] w K := by
  refine calls_of_J (n := 11) (rs := [.tmp 2]) Tryd.func46 rfl rfl rfl rfl ?_
  exact sh_sound _ _ _ _ (Eq.mp (by kernel_rfl) h)

/-! ### (*hayloft/hayloftref10.Span).Take: function 47 -/
abbrev ref10_Span_Take.p2 (K : Value → World → Prop) (w : World) : Prop :=
  K (.tuple #[.int .i64 0, .bool false]) w
abbrev ref10_Span_Take.b0 (L0 : Option Addr → Int → Int → World → Prop) (K : Value → World → Prop) (x0 : Option Addr) (x9 : Int) (x10 : Int) (w : World) : Prop :=
  condP (decide (x10 < x9)) (∃ (a5 : Addr), x0 = some a5 ∧ ∃ (A6 : Option Addr) (m7 : Nat) (c8 : Nat), w.cell? (a5.add 3) = some (.slice A6 m7 c8) ∧ (0 ≤ x10 ∧ x10 < ((m7 : Nat) : Int)) ∧ ∃ (a9 : Addr), A6 = some a9 ∧ ∃ (b10 : Bool), w.cell? (a9.add x10.toNat) = some (.bool b10) ∧ condP (!b10) (∃ (a11 : Addr), x0 = some a11 ∧ ∃ (A12 : Option Addr) (m13 : Nat) (c14 : Nat), w.cell? (a11.add 3) = some (.slice A12 m13 c14) ∧ (0 ≤ x10 ∧ x10 < ((m13 : Nat) : Int)) ∧ ∃ (a15 : Addr), A12 = some a15 ∧ canStore w (a15.add x10.toNat) ∧ wlet (w.setCell (a15.add x10.toNat) (.bool true)) fun w16 => K (.tuple #[.int .i64 x10, .bool true]) w16) (L0 x0 x9 (IntKind.wrap .i64 (x10 + (1 : Int))) w)) (ref10_Span_Take.p2 K w)
def ref10_Span_Take.l0 (K : Value → World → Prop) (k : Nat) : Option Addr → Int → Int → World → Prop :=
  Nat.rec (motive := fun _ => Option Addr → Int → Int → World → Prop) (fun _ _ _ _ => False) (fun _ ih => ref10_Span_Take.b0 ih K) k
theorem ref10_Span_Take.l0_succ (K : Value → World → Prop) (k : Nat) (x0 : Option Addr) (x9 : Int) (x10 : Int) (w : World) : ref10_Span_Take.l0 K (k + 1) x0 x9 x10 w = ref10_Span_Take.b0 (ref10_Span_Take.l0 K k) K x0 x9 x10 w := rfl
abbrev ref10_Span_Take.p1 (K : Value → World → Prop) (x0 : Option Addr) (x9 : Int) (x10 : Int) (w : World) : Prop :=
  ∃ k, ref10_Span_Take.l0 K k x0 x9 x10 w
abbrev ref10_Span_Take.p0 (K : Value → World → Prop) (x0 : Option Addr) (w : World) : Prop :=
  ∃ (a1 : Addr), x0 = some a1 ∧ ∃ (A2 : Option Addr) (m3 : Nat) (c4 : Nat), w.cell? (a1.add 3) = some (.slice A2 m3 c4) ∧ ref10_Span_Take.p1 K x0 ((m3 : Nat) : Int) 0 w
abbrev ref10_Span_Take.F (q0 : Option Addr) (K : Value → World → Prop) (w : World) : Prop :=
  ref10_Span_Take.p0 K q0 w
theorem ref10_Span_Take.ok {q0 : Option Addr} {K : Value → World → Prop} {w : World} (h : ref10_Span_Take.F q0 K w) :
    CallsE Tryd.prog 47 #[.pointer q0] w K := by
  refine calls_of_J (n := 29) (rs := [.tmp 2, .tmp 3]) Tryd.func47 rfl rfl rfl rfl ?_
  refine J_seq (fun σ w => vP (σ 0) fun x0 => ref10_Span_Take.p0 K x0 w) ?_ ?_
  ·
    exact sh_sound _ _ _ _ (Eq.mp (by kernel_rfl) h)
  · intro σ w h
    obtain ⟨x0, e0, h⟩ := vP_elim h
    refine J.sub ?_ ((Sub.base _).upd e0)
    clear e0
    refine J_seq (fun σ w => ref10_Span_Take.p2 K w) ?_ ?_
    ·
      refine J_seq (fun σ w => vP (σ 0) fun x0 => vI .i64 (σ 9) fun x9 => vI .i64 (σ 10) fun x10 => ref10_Span_Take.p1 K x0 x9 x10 w) ?_ ?_
      ·
        exact sh_sound _ _ _ _ (Eq.mp (by kernel_rfl) h)
      · intro σ w h
        obtain ⟨x0, e0, h⟩ := vP_elim h
        obtain ⟨x9, e9, h⟩ := vI_elim h
        obtain ⟨x10, e10, h⟩ := vI_elim h
        refine J.sub ?_ ((((Sub.base _).upd e0).upd e9).upd e10)
        clear e0 e9 e10
        refine J_block ?_
        refine J_loop (fun k σ w => vP (σ 0) fun x0 => vI .i64 (σ 9) fun x9 => vI .i64 (σ 10) fun x10 => ref10_Span_Take.l0 K k x0 x9 x10 w) (Eq.mp (by kernel_rfl) h) ?_ ?_
        · intro σ w h
          obtain ⟨x0, e0, h⟩ := vP_elim h
          obtain ⟨x9, e9, h⟩ := vI_elim h
          obtain ⟨x10, e10, h⟩ := vI_elim h
          exact h
        · intro k0 σ w h
          obtain ⟨x0, e0, h⟩ := vP_elim h
          obtain ⟨x9, e9, h⟩ := vI_elim h
          obtain ⟨x10, e10, h⟩ := vI_elim h
          refine J.sub ?_ ((((Sub.base _).upd e0).upd e9).upd e10)
          clear e0 e9 e10
          exact sh_sound _ _ _ _ (Eq.mp (by kernel_rfl) h)
    · intro σ w h
      refine J.sub ?_ (Sub.base _)
      exact sh_sound _ _ _ _ (Eq.mp (by kernel_rfl) h)

/-! ### (*hayloft/hayloftref10.Span).Give: function 48 -/
abbrev ref10_Span_Give.F (q0 : Option Addr) (q1 : Int) (K : Value → World → Prop) (w : World) : Prop :=
  CallsE Tryd.prog 49 #[.pointer q0, .int .i64 q1] w (fun v1 w2 => ∃ (b3 : Bool), v1 = .bool b3 ∧ condP (!b3) (K (.bool false) w2) (∃ (a4 : Addr), q0 = some a4 ∧ ∃ (A5 : Option Addr) (m6 : Nat) (c7 : Nat), w2.cell? (a4.add 3) = some (.slice A5 m6 c7) ∧ (0 ≤ q1 ∧ q1 < ((m6 : Nat) : Int)) ∧ ∃ (a8 : Addr), A5 = some a8 ∧ canStore w2 (a8.add q1.toNat) ∧ wlet (w2.setCell (a8.add q1.toNat) (.bool false)) fun w9 => K (.bool true) w9))
theorem ref10_Span_Give.ok {q0 : Option Addr} {q1 : Int} {K : Value → World → Prop} {w : World} (h : ref10_Span_Give.F q0 q1 K w) :
    CallsE Tryd.prog 48 #[.pointer q0, .int .i64 q1] w K := by
  refine calls_of_J (n := 15) (rs := [.tmp 4]) Tryd.func48 rfl rfl rfl rfl ?_
  exact sh_sound _ _ _ _ (Eq.mp (by kernel_rfl) h)

/-! ### (*hayloft/hayloftref10.Span).Has: function 49 -/
abbrev ref10_Span_Has.p1 (K : Value → World → Prop) (x4 : Bool) (w : World) : Prop :=
  K (.bool x4) w
abbrev ref10_Span_Has.p0 (K : Value → World → Prop) (x0 : Option Addr) (x1 : Int) (w : World) : Prop :=
  condP (decide ((0 : Int) ≤ x1)) (∃ (a1 : Addr), x0 = some a1 ∧ ∃ (A2 : Option Addr) (m3 : Nat) (c4 : Nat), w.cell? (a1.add 3) = some (.slice A2 m3 c4) ∧ condP (decide (x1 < ((m3 : Nat) : Int))) (∃ (a5 : Addr), x0 = some a5 ∧ ∃ (A6 : Option Addr) (m7 : Nat) (c8 : Nat), w.cell? (a5.add 3) = some (.slice A6 m7 c8) ∧ (0 ≤ x1 ∧ x1 < ((m7 : Nat) : Int)) ∧ ∃ (a9 : Addr), A6 = some a9 ∧ ∃ (b10 : Bool), w.cell? (a9.add x1.toNat) = some (.bool b10) ∧ ref10_Span_Has.p1 K b10 w) (ref10_Span_Has.p1 K false w)) (ref10_Span_Has.p1 K false w)
abbrev ref10_Span_Has.F (q0 : Option Addr) (q1 : Int) (K : Value → World → Prop) (w : World) : Prop :=
  ref10_Span_Has.p0 K q0 q1 w
theorem ref10_Span_Has.ok {q0 : Option Addr} {q1 : Int} {K : Value → World → Prop} {w : World} (h : ref10_Span_Has.F q0 q1 K w) :
    CallsE Tryd.prog 49 #[.pointer q0, .int .i64 q1] w K := by
  refine calls_of_J (n := 25) (rs := [.tmp 4]) Tryd.func49 rfl rfl rfl rfl ?_
  refine J_seq (fun σ w => vP (σ 0) fun x0 => vI .i64 (σ 1) fun x1 => ref10_Span_Has.p0 K x0 x1 w) ?_ ?_
  ·
    exact sh_sound _ _ _ _ (Eq.mp (by kernel_rfl) h)
  · intro σ w h
    obtain ⟨x0, e0, h⟩ := vP_elim h
    obtain ⟨x1, e1, h⟩ := vI_elim h
    refine J.sub ?_ (((Sub.base _).upd e0).upd e1)
    clear e0 e1
    refine J_seq (fun σ w => vB (σ 4) fun x4 => ref10_Span_Has.p1 K x4 w) ?_ ?_
    ·
      exact sh_sound _ _ _ _ (Eq.mp (by kernel_rfl) h)
    · intro σ w h
      obtain ⟨x4, e4, h⟩ := vB_elim h
      refine J.sub ?_ ((Sub.base _).upd e4)
      clear e4
      exact sh_sound _ _ _ _ (Eq.mp (by kernel_rfl) h)

/-! ### (*hayloft/hayloftref10.Span).At: function 50 -/
abbrev ref10_Span_At.p3 (K : Value → World → Prop) (x4 : Int) (x5 : Bool) (w : World) : Prop :=
  K (.tuple #[.int .i64 x4, .bool x5]) w
abbrev ref10_Span_At.p2 (K : Value → World → Prop) (x0 : Option Addr) (x1 : Int) (w : World) : Prop :=
  ∃ (S1 : Array Obj → Prop), S1 w.heap ∧ ∃ (a2 : Addr), x0 = some a2 ∧ ∃ (n3 : Int), (∀ w' : World, S1 w'.heap → w'.cell? a2 = some (.int .i64 n3)) ∧ CallsE Tryd.prog 31 #[.pointer x0] w (fun v4 w5 => ∃ (n6 : Int), v4 = .int .i64 n6 ∧ S1 w5.heap ∧ ref10_Span_At.p3 K (IntKind.wrap .i64 ((IntKind.wrap .i64 ((256 : Int) * n3)) + (IntKind.wrap .i64 (x1 * n6)))) true w5)
abbrev ref10_Span_At.p1 (K : Value → World → Prop) (x0 : Option Addr) (x1 : Int) (x16 : Bool) (w : World) : Prop :=
  condP x16 (K (.tuple #[.int .i64 0, .bool false]) w) (ref10_Span_At.p2 K x0 x1 w)
abbrev ref10_Span_At.p0 (K : Value → World → Prop) (x0 : Option Addr) (x1 : Int) (w : World) : Prop :=
  condP (decide (x1 < (0 : Int))) (ref10_Span_At.p1 K x0 x1 true w) (∃ (a7 : Addr), x0 = some a7 ∧ ∃ (A8 : Option Addr) (m9 : Nat) (c10 : Nat), w.cell? (a7.add 3) = some (.slice A8 m9 c10) ∧ ref10_Span_At.p1 K x0 x1 (decide (((m9 : Nat) : Int) ≤ x1)) w)
abbrev ref10_Span_At.F (q0 : Option Addr) (q1 : Int) (K : Value → World → Prop) (w : World) : Prop :=
  ref10_Span_At.p0 K q0 q1 w
theorem ref10_Span_At.ok {q0 : Option Addr} {q1 : Int} {K : Value → World → Prop} {w : World} (h : ref10_Span_At.F q0 q1 K w) :
    CallsE Tryd.prog 50 #[.pointer q0, .int .i64 q1] w K := by
  refine calls_of_J (n := 27) (rs := [.tmp 4, .tmp 5]) Tryd.func50 rfl rfl rfl rfl ?_
  refine J_seq (fun σ w => vP (σ 0) fun x0 => vI .i64 (σ 1) fun x1 => ref10_Span_At.p0 K x0 x1 w) ?_ ?_
  ·
    exact sh_sound _ _ _ _ (Eq.mp (by kernel_rfl) h)
  · intro σ w h
    obtain ⟨x0, e0, h⟩ := vP_elim h
    obtain ⟨x1, e1, h⟩ := vI_elim h
    refine J.sub ?_ (((Sub.base _).upd e0).upd e1)
    clear e0 e1
    refine J_seq (fun σ w => vP (σ 0) fun x0 => vI .i64 (σ 1) fun x1 => ref10_Span_At.p2 K x0 x1 w) ?_ ?_
    ·
      refine J_seq (fun σ w => vP (σ 0) fun x0 => vI .i64 (σ 1) fun x1 => vB (σ 16) fun x16 => ref10_Span_At.p1 K x0 x1 x16 w) ?_ ?_
      ·
        exact sh_sound _ _ _ _ (Eq.mp (by kernel_rfl) h)
      · intro σ w h
        obtain ⟨x0, e0, h⟩ := vP_elim h
        obtain ⟨x1, e1, h⟩ := vI_elim h
        obtain ⟨x16, e16, h⟩ := vB_elim h
        refine J.sub ?_ ((((Sub.base _).upd e0).upd e1).upd e16)
        clear e0 e1 e16
        exact sh_sound _ _ _ _ (Eq.mp (by kernel_rfl) h)
    · intro σ w h
      obtain ⟨x0, e0, h⟩ := vP_elim h
      obtain ⟨x1, e1, h⟩ := vI_elim h
      refine J.sub ?_ (((Sub.base _).upd e0).upd e1)
      clear e0 e1
      refine J_seq (fun σ w => vI .i64 (σ 4) fun x4 => vB (σ 5) fun x5 => ref10_Span_At.p3 K x4 x5 w) ?_ ?_
      ·
        exact J_held [] [(0, 0), (1, 0), (2, 0), (5, 0), (6, 0), (3, 1), (4, 0), (7, 2), (8, 0), (9, 0), (10, 0), (11, 0)] (by kernel_rfl) (Eq.mp (by kernel_rfl) h)
      · intro σ w h
        obtain ⟨x4, e4, h⟩ := vI_elim h
        obtain ⟨x5, e5, h⟩ := vB_elim h
        refine J.sub ?_ (((Sub.base _).upd e4).upd e5)
        clear e4 e5
        exact sh_sound _ _ _ _ (Eq.mp (by kernel_rfl) h)

/-! ### (*hayloft/hayloftref10.Span).Slot: function 51 -/
abbrev ref10_Span_Slot.p2 (K : Value → World → Prop) (w : World) : Prop :=
  K (.tuple #[.int .i64 0, .bool false]) w
abbrev ref10_Span_Slot.b0 (L0 : Option Addr → Int → Int → Int → World → Prop) (K : Value → World → Prop) (x0 : Option Addr) (x1 : Int) (x13 : Int) (x14 : Int) (w : World) : Prop :=
  condP (decide (x14 < x13)) (CallsE Tryd.prog 50 #[.pointer x0, .int .i64 x14] w (fun v5 w6 => ∃ (n7 : Int) (b8 : Bool), v5 = .tuple #[.int .i64 n7, .bool b8] ∧ condP (n7 == x1) (K (.tuple #[.int .i64 x14, .bool true]) w6) (L0 x0 x1 x13 (IntKind.wrap .i64 (x14 + (1 : Int))) w6))) (ref10_Span_Slot.p2 K w)
def ref10_Span_Slot.l0 (K : Value → World → Prop) (k : Nat) : Option Addr → Int → Int → Int → World → Prop :=
  Nat.rec (motive := fun _ => Option Addr → Int → Int → Int → World → Prop) (fun _ _ _ _ _ => False) (fun _ ih => ref10_Span_Slot.b0 ih K) k
theorem ref10_Span_Slot.l0_succ (K : Value → World → Prop) (k : Nat) (x0 : Option Addr) (x1 : Int) (x13 : Int) (x14 : Int) (w : World) : ref10_Span_Slot.l0 K (k + 1) x0 x1 x13 x14 w = ref10_Span_Slot.b0 (ref10_Span_Slot.l0 K k) K x0 x1 x13 x14 w := rfl
abbrev ref10_Span_Slot.p1 (K : Value → World → Prop) (x0 : Option Addr) (x1 : Int) (x13 : Int) (x14 : Int) (w : World) : Prop :=
  ∃ k, ref10_Span_Slot.l0 K k x0 x1 x13 x14 w
abbrev ref10_Span_Slot.p0 (K : Value → World → Prop) (x0 : Option Addr) (x1 : Int) (w : World) : Prop :=
  ∃ (a1 : Addr), x0 = some a1 ∧ ∃ (A2 : Option Addr) (m3 : Nat) (c4 : Nat), w.cell? (a1.add 3) = some (.slice A2 m3 c4) ∧ ref10_Span_Slot.p1 K x0 x1 ((m3 : Nat) : Int) 0 w
abbrev ref10_Span_Slot.F (q0 : Option Addr) (q1 : Int) (K : Value → World → Prop) (w : World) : Prop :=
  ref10_Span_Slot.p0 K q0 q1 w
theorem ref10_Span_Slot.ok {q0 : Option Addr} {q1 : Int} {K : Value → World → Prop} {w : World} (h : ref10_Span_Slot.F q0 q1 K w) :
    CallsE Tryd.prog 51 #[.pointer q0, .int .i64 q1] w K := by
  refine calls_of_J (n := 28) (rs := [.tmp 4, .tmp 5]) Tryd.func51 rfl rfl rfl rfl ?_
  refine J_seq (fun σ w => vP (σ 0) fun x0 => vI .i64 (σ 1) fun x1 => ref10_Span_Slot.p0 K x0 x1 w) ?_ ?_
  ·
    exact sh_sound _ _ _ _ (Eq.mp (by kernel_rfl) h)
  · intro σ w h
    obtain ⟨x0, e0, h⟩ := vP_elim h
    obtain ⟨x1, e1, h⟩ := vI_elim h
    refine J.sub ?_ (((Sub.base _).upd e0).upd e1)
    clear e0 e1
    refine J_seq (fun σ w => ref10_Span_Slot.p2 K w) ?_ ?_
    ·
      refine J_seq (fun σ w => vP (σ 0) fun x0 => vI .i64 (σ 1) fun x1 => vI .i64 (σ 13) fun x13 => vI .i64 (σ 14) fun x14 => ref10_Span_Slot.p1 K x0 x1 x13 x14 w) ?_ ?_
      ·
        exact sh_sound _ _ _ _ (Eq.mp (by kernel_rfl) h)
      · intro σ w h
        obtain ⟨x0, e0, h⟩ := vP_elim h
        obtain ⟨x1, e1, h⟩ := vI_elim h
        obtain ⟨x13, e13, h⟩ := vI_elim h
        obtain ⟨x14, e14, h⟩ := vI_elim h
        refine J.sub ?_ (((((Sub.base _).upd e0).upd e1).upd e13).upd e14)
        clear e0 e1 e13 e14
        refine J_block ?_
        refine J_loop (fun k σ w => vP (σ 0) fun x0 => vI .i64 (σ 1) fun x1 => vI .i64 (σ 13) fun x13 => vI .i64 (σ 14) fun x14 => ref10_Span_Slot.l0 K k x0 x1 x13 x14 w) (Eq.mp (by kernel_rfl) h) ?_ ?_
        · intro σ w h
          obtain ⟨x0, e0, h⟩ := vP_elim h
          obtain ⟨x1, e1, h⟩ := vI_elim h
          obtain ⟨x13, e13, h⟩ := vI_elim h
          obtain ⟨x14, e14, h⟩ := vI_elim h
          exact h
        · intro k0 σ w h
          obtain ⟨x0, e0, h⟩ := vP_elim h
          obtain ⟨x1, e1, h⟩ := vI_elim h
          obtain ⟨x13, e13, h⟩ := vI_elim h
          obtain ⟨x14, e14, h⟩ := vI_elim h
          refine J.sub ?_ (((((Sub.base _).upd e0).upd e1).upd e13).upd e14)
          clear e0 e1 e13 e14
          exact sh_sound _ _ _ _ (Eq.mp (by kernel_rfl) h)
    · intro σ w h
      refine J.sub ?_ (Sub.base _)
      exact sh_sound _ _ _ _ (Eq.mp (by kernel_rfl) h)

/-! ### hayloft/hayloftref06.Size: function 52 -/
abbrev ref06_Size.p2 (K : Value → World → Prop) (x0 : Int) (w : World) : Prop :=
  (0 ≤ x0 ∧ x0 < ((7 : Nat) : Int)) ∧ ∃ (n1 : Int), ([.int .i64 16, .int .i64 24, .int .i64 32, .int .i64 48, .int .i64 64, .int .i64 96, .int .i64 128] : List Value)[x0.toNat]? = some (.int .i64 n1) ∧ K (.int .i64 n1) w
abbrev ref06_Size.p1 (K : Value → World → Prop) (x0 : Int) (x8 : Bool) (w : World) : Prop :=
  condP x8 (K (.int .i64 0) w) (ref06_Size.p2 K x0 w)
abbrev ref06_Size.p0 (K : Value → World → Prop) (x0 : Int) (w : World) : Prop :=
  condP (decide (x0 < (0 : Int))) (ref06_Size.p1 K x0 true w) (ref06_Size.p1 K x0 (decide ((6 : Int) < x0)) w)
abbrev ref06_Size.F (q0 : Int) (K : Value → World → Prop) (w : World) : Prop :=
  ref06_Size.p0 K q0 w
theorem ref06_Size.ok {q0 : Int} {K : Value → World → Prop} {w : World} (h : ref06_Size.F q0 K w) :
    CallsE Tryd.prog 52 #[.int .i64 q0] w K := by
  refine calls_of_J (n := 12) (rs := [.tmp 2]) Tryd.func52 rfl rfl rfl rfl ?_
  refine J_seq (fun σ w => vI .i64 (σ 0) fun x0 => ref06_Size.p0 K x0 w) ?_ ?_
  ·
    exact sh_sound _ _ _ _ (Eq.mp (by kernel_rfl) h)
  · intro σ w h
    obtain ⟨x0, e0, h⟩ := vI_elim h
    refine J.sub ?_ ((Sub.base _).upd e0)
    clear e0
    refine J_seq (fun σ w => vI .i64 (σ 0) fun x0 => ref06_Size.p2 K x0 w) ?_ ?_
    ·
      refine J_seq (fun σ w => vI .i64 (σ 0) fun x0 => vB (σ 8) fun x8 => ref06_Size.p1 K x0 x8 w) ?_ ?_
      ·
        exact sh_sound _ _ _ _ (Eq.mp (by kernel_rfl) h)
      · intro σ w h
        obtain ⟨x0, e0, h⟩ := vI_elim h
        obtain ⟨x8, e8, h⟩ := vB_elim h
        refine J.sub ?_ (((Sub.base _).upd e0).upd e8)
        clear e0 e8
        exact sh_sound _ _ _ _ (Eq.mp (by kernel_rfl) h)
    · intro σ w h
      obtain ⟨x0, e0, h⟩ := vI_elim h
      refine J.sub ?_ ((Sub.base _).upd e0)
      clear e0
      exact sh_sound _ _ _ _ (Eq.mp (by kernel_rfl) h)

/-! ### hayloft/hayloftref06.Pages: function 53 -/
abbrev ref06_Pages.F (q0 : Int) (K : Value → World → Prop) (w : World) : Prop :=
  CallsE Tryd.prog 45 #[.int .i64 q0] w (fun v1 w2 => ∃ (n3 : Int), v1 = .int .i64 n3 ∧ condP (decide (n3 < (0 : Int))) (K (.int .i64 0) w2) (CallsE Tryd.prog 45 #[.int .i64 q0] w2 (fun v4 w5 => ∃ (n6 : Int), v4 = .int .i64 n6 ∧ condP (decide (n6 < (7 : Int))) (K (.int .i64 1) w5) ((256 : Int) ≠ 0 ∧ K (.int .i64 (IntKind.wrap .i64 (Int.tdiv (IntKind.wrap .i64 (q0 + (255 : Int))) 256))) w5))))
theorem ref06_Pages.ok {q0 : Int} {K : Value → World → Prop} {w : World} (h : ref06_Pages.F q0 K w) :
    CallsE Tryd.prog 53 #[.int .i64 q0] w K := by
  refine calls_of_J (n := 12) (rs := [.tmp 2]) Tryd.func53 rfl rfl rfl rfl ?_
  exact sh_sound _ _ _ _ (Eq.mp (by kernel_rfl) h)

/-! ### (*hayloft/set.Set).Len: function 54 -/
abbrev set_Set_Len.F (q0 : Option Addr) (K : Value → World → Prop) (w : World) : Prop :=
  condP q0.isNone (K (.int .i64 0) w) (∃ (a1 : Addr), q0 = some a1 ∧ ∃ (n2 : Int), w.cell? a1 = some (.int .i64 n2) ∧ K (.int .i64 n2) w)
theorem set_Set_Len.ok {q0 : Option Addr} {K : Value → World → Prop} {w : World} (h : set_Set_Len.F q0 K w) :
    CallsE Tryd.prog 54 #[.pointer q0] w K := by
  refine calls_of_J (n := 9) (rs := [.tmp 2]) Tryd.func54 rfl rfl rfl rfl ?_
  exact sh_sound _ _ _ _ (Eq.mp (by kernel_rfl) h)

/-! ### (*hayloft/set.Set).Has: function 55 -/
abbrev set_Set_Has.p1 (K : Value → World → Prop) (x4 : Bool) (w : World) : Prop :=
  K (.bool x4) w
abbrev set_Set_Has.p0 (K : Value → World → Prop) (x0 : Option Addr) (x1 : Int) (w : World) : Prop :=
  condP (decide ((0 : Int) ≤ x1)) (CallsE Tryd.prog 54 #[.pointer x0] w (fun v1 w2 => ∃ (n3 : Int), v1 = .int .i64 n3 ∧ condP (decide (x1 < n3)) (∃ (a4 : Addr), x0 = some a4 ∧ ∃ (A5 : Option Addr) (m6 : Nat) (c7 : Nat), w2.cell? (a4.add 1) = some (.slice A5 m6 c7) ∧ (64 : Int) ≠ 0 ∧ (0 ≤ (IntKind.wrap .i64 (Int.tdiv x1 64)) ∧ (IntKind.wrap .i64 (Int.tdiv x1 64)) < ((m6 : Nat) : Int)) ∧ ∃ (a8 : Addr), A5 = some a8 ∧ ∃ (n9 : Int), w2.cell? (a8.add ((IntKind.wrap .i64 (Int.tdiv x1 64)).toNat)) = some (.int .u64 n9) ∧ (64 : Int) ≠ 0 ∧ 0 ≤ (Int.tmod x1 64) ∧ set_Set_Has.p1 K ((ibits .and .u64 (ishr .u64 n9 (Int.tmod x1 64)) 1) == (1 : Int)) w2) (set_Set_Has.p1 K false w2))) (set_Set_Has.p1 K false w)
abbrev set_Set_Has.F (q0 : Option Addr) (q1 : Int) (K : Value → World → Prop) (w : World) : Prop :=
  set_Set_Has.p0 K q0 q1 w
theorem set_Set_Has.ok {q0 : Option Addr} {q1 : Int} {K : Value → World → Prop} {w : World} (h : set_Set_Has.F q0 q1 K w) :
    CallsE Tryd.prog 55 #[.pointer q0, .int .i64 q1] w K := by
  refine calls_of_J (n := 28) (rs := [.tmp 4]) Tryd.func55 rfl rfl rfl rfl ?_
  refine J_seq (fun σ w => vP (σ 0) fun x0 => vI .i64 (σ 1) fun x1 => set_Set_Has.p0 K x0 x1 w) ?_ ?_
  ·
    exact sh_sound _ _ _ _ (Eq.mp (by kernel_rfl) h)
  · intro σ w h
    obtain ⟨x0, e0, h⟩ := vP_elim h
    obtain ⟨x1, e1, h⟩ := vI_elim h
    refine J.sub ?_ (((Sub.base _).upd e0).upd e1)
    clear e0 e1
    refine J_seq (fun σ w => vB (σ 4) fun x4 => set_Set_Has.p1 K x4 w) ?_ ?_
    ·
      exact sh_sound _ _ _ _ (Eq.mp (by kernel_rfl) h)
    · intro σ w h
      obtain ⟨x4, e4, h⟩ := vB_elim h
      refine J.sub ?_ ((Sub.base _).upd e4)
      clear e4
      exact sh_sound _ _ _ _ (Eq.mp (by kernel_rfl) h)

/-! ### (*hayloft/set.Set).First: function 56 -/
abbrev set_Set_First.F (q0 : Option Addr) (q1 : Int) (K : Value → World → Prop) (w : World) : Prop :=
  CallsE Tryd.prog 57 #[.pointer q0, .int .i64 q1, .int .u64 0] w (fun v1 w2 => ∃ (n3 : Int), v1 = .int .i64 n3 ∧ K (.int .i64 n3) w2)
theorem set_Set_First.ok {q0 : Option Addr} {q1 : Int} {K : Value → World → Prop} {w : World} (h : set_Set_First.F q0 q1 K w) :
    CallsE Tryd.prog 56 #[.pointer q0, .int .i64 q1] w K := by
  refine calls_of_J (n := 8) (rs := [.tmp 4]) Tryd.func56 rfl rfl rfl rfl ?_
  exact sh_sound _ _ _ _ (Eq.mp (by kernel_rfl) h)

end Go.Proofs.YtmjbnhleakakaaaDoor.F
