/-
  Printed by a program: for each Go function a proposition that says what it comes to, and the proof that the code comes to it. No condition beyond what each theorem states.
-/
import Derived.Test.YtemgehocabfbkaaProg
import Derived.Test.YtemgehocabfbkaaSh
set_option linter.unusedVariables false
set_option maxRecDepth 100000
namespace Go.Proofs.Ytemgehocabfbkaa.F
open Go Go.RowKit Go.Proofs.Ytemgehocabfbkaa Go.Proofs.Ytemgehocabfbkaa.Sh

noncomputable abbrev Pg : Program := Try.prog
abbrev law01_NumPuts.N : FuncId := 3
abbrev law01_NumVars.N : FuncId := 4
abbrev law01_NumOne.N : FuncId := 5
abbrev law01_NumOrder.N : FuncId := 6
abbrev law01_NumBack.N : FuncId := 7
abbrev law01_NumReads.N : FuncId := 8
abbrev law01_NumStays.N : FuncId := 9
abbrev law01_alive.N : FuncId := 10
abbrev ref01_Same.N : FuncId := 11
abbrev num_Put.N : FuncId := 12
abbrev ref01_Put.N : FuncId := 13
abbrev num_Get.N : FuncId := 14
abbrev ref01_Get.N : FuncId := 15
abbrev ref01_Var.N : FuncId := 16
abbrev num_Var.N : FuncId := 17
abbrev num_Size.N : FuncId := 18
abbrev num_Open.N : FuncId := 19
abbrev num_Reader_Var.N : FuncId := 20
abbrev num_Reader_Err.N : FuncId := 21
abbrev num_Reader_Left.N : FuncId := 22
abbrev num_Reader_Upto.N : FuncId := 23
abbrev num_Reader_Fixed.N : FuncId := 24
abbrev num_Reader_Bytes.N : FuncId := 25
abbrev num_Reader_End.N : FuncId := 26
abbrev ref01_Copy.N : FuncId := 27
abbrev ref01_Reader_Fixed.N : FuncId := 28
abbrev ref01_Reader_Var.N : FuncId := 29
abbrev ref01_Reader_Upto.N : FuncId := 30
abbrev ref01_Reader_Bytes.N : FuncId := 31
abbrev num_Reader_Fail.N : FuncId := 32
abbrev ref01_Reader_Fail.N : FuncId := 33
abbrev ref01_Reader_Rest.N : FuncId := 34
abbrev ref01_Reader_End.N : FuncId := 35
abbrev num_clamp.N : FuncId := 36
abbrev ref01_Width.N : FuncId := 37
abbrev api_Errno_Error.N : FuncId := 53
abbrev Ty.int64 : TypeId := 2
abbrev Ty.int : TypeId := 3
abbrev Ty.bool : TypeId := 4
abbrev Ty.uint8 : TypeId := 5
abbrev Ty.abi_BoundsErrorCode : TypeId := 6
abbrev Ty.runtime_boundsError : TypeId := 8
abbrev Ty.string : TypeId := 9
abbrev Ty.runtime_errorString : TypeId := 10
abbrev Ty.runtime_plainError : TypeId := 11
abbrev Ty.uintptr : TypeId := 12
abbrev Ty.runtime_errorAddressString : TypeId := 14
abbrev Ty.p_runtime_TypeAssertionError : TypeId := 15
abbrev Ty.p_runtime_PanicNilError : TypeId := 16
abbrev Ty.p_abi_Type : TypeId := 17
abbrev Ty.maps_unhashableTypeError : TypeId := 19
abbrev Ty.int32 : TypeId := 21
abbrev Ty.uint64 : TypeId := 22
abbrev Ty.sl_uint8 : TypeId := 23
abbrev Ty.p_num_Reader : TypeId := 32
abbrev Ty.api_Errno : TypeId := 35
abbrev Ty.sl_law01_Item : TypeId := 40
abbrev Ty.law01_Item : TypeId := 42
abbrev Ty.sl_law01_Call : TypeId := 47
abbrev Ty.p_ref01_Reader : TypeId := 49
abbrev Ty.ref01_Reader : TypeId := 51
abbrev Ty.law01_Call : TypeId := 53
abbrev Ty.a8_uint8 : TypeId := 58
abbrev Ty.uint : TypeId := 60
abbrev Ty.num_Reader : TypeId := 62
abbrev Ty.runtime_TypeAssertionError : TypeId := 65
abbrev Ty.a0_p_runtime_PanicNilError : TypeId := 66
abbrev Ty.runtime_PanicNilError : TypeId := 68
abbrev Ty.uint32 : TypeId := 69
abbrev Ty.abi_TFlag : TypeId := 70
abbrev Ty.abi_Kind : TypeId := 71
abbrev Ty.p_uint8 : TypeId := 73
abbrev Ty.abi_NameOff : TypeId := 74
abbrev Ty.abi_TypeOff : TypeId := 75
abbrev Ty.abi_Type : TypeId := 77
abbrev Ty.unsafe_Pointer : TypeId := 78

/-! ### hayloft/hayloftlaw01.NumPuts: function 3 -/
abbrev law01_NumPuts.p2 (K : Value → World → Prop) (x6 : Bool) (w : World) : Prop :=
  K (.bool x6) w
abbrev law01_NumPuts.p1 (K : Value → World → Prop) (x0 : Int) (x1 : Int) (x2A : Option Addr) (x2n : Nat) (x2c : Nat) (w : World) : Prop :=
  CallsE Try.prog 12 #[.int .u64 x0, .int .i64 x1] w (fun v4 w5 => ∃ (A6 : Option Addr) (m7 : Nat) (c8 : Nat), v4 = .slice A6 m7 c8 ∧ CallsE Try.prog 13 #[.int .u64 x0, .int .i64 x1] w5 (fun v9 w10 => ∃ (A11 : Option Addr) (m12 : Nat) (c13 : Nat), v9 = .slice A11 m12 c13 ∧ CallsE Try.prog 11 #[.slice A6 m7 c8, .slice A11 m12 c13] w10 (fun v14 w15 => ∃ (b16 : Bool), v14 = .bool b16 ∧ condP b16 (CallsE Try.prog 14 #[.slice x2A x2n x2c] w15 (fun v17 w18 => ∃ (n19 : Int), v17 = .int .u64 n19 ∧ CallsE Try.prog 15 #[.slice x2A x2n x2c] w18 (fun v20 w21 => ∃ (n22 : Int), v20 = .int .u64 n22 ∧ law01_NumPuts.p2 K (n19 == n22) w21))) (law01_NumPuts.p2 K false w15))))
abbrev law01_NumPuts.p0 (K : Value → World → Prop) (x0 : Int) (x1 : Int) (x2A : Option Addr) (x2n : Nat) (x2c : Nat) (w : World) : Prop :=
  CallsE Try.prog 10 #[] w (fun v1 w2 => ∃ (b3 : Bool), v1 = .bool b3 ∧ condP (!b3) (K (.bool false) w2) (law01_NumPuts.p1 K x0 x1 x2A x2n x2c w2))
abbrev law01_NumPuts.F (q0 : Int) (q1 : Int) (q2A : Option Addr) (q2n : Nat) (q2c : Nat) (K : Value → World → Prop) (w : World) : Prop :=
  law01_NumPuts.p0 K q0 q1 q2A q2n q2c w
theorem law01_NumPuts.ok {q0 : Int} {q1 : Int} {q2A : Option Addr} {q2n : Nat} {q2c : Nat} {K : Value → World → Prop} {w : World} (h : law01_NumPuts.F q0 q1 q2A q2n q2c K w) :
    CallsE Try.prog 3 #[.int .u64 q0, .int .i64 q1, .slice q2A q2n q2c] w K := by
  refine calls_of_J (n := 23) (rs := [.tmp 6]) Try.func3 rfl rfl rfl rfl ?_
  refine J_seq (fun σ w => vI .u64 (σ 0) fun x0 => vI .i64 (σ 1) fun x1 => vS (σ 2) fun x2A x2n x2c => law01_NumPuts.p0 K x0 x1 x2A x2n x2c w) ?_ ?_
  ·
    exact sh_sound _ _ _ _ (Eq.mp (by kernel_rfl) h)
  · intro σ w h
    obtain ⟨x0, e0, h⟩ := vI_elim h
    obtain ⟨x1, e1, h⟩ := vI_elim h
    obtain ⟨x2A, x2n, x2c, e2, h⟩ := vS_elim h
    refine J.sub ?_ ((((Sub.base _).upd e0).upd e1).upd e2)
    clear e0 e1 e2
    refine J_seq (fun σ w => vI .u64 (σ 0) fun x0 => vI .i64 (σ 1) fun x1 => vS (σ 2) fun x2A x2n x2c => law01_NumPuts.p1 K x0 x1 x2A x2n x2c w) ?_ ?_
    ·
      exact sh_sound _ _ _ _ (Eq.mp (by kernel_rfl) h)
    · intro σ w h
      obtain ⟨x0, e0, h⟩ := vI_elim h
      obtain ⟨x1, e1, h⟩ := vI_elim h
      obtain ⟨x2A, x2n, x2c, e2, h⟩ := vS_elim h
      refine J.sub ?_ ((((Sub.base _).upd e0).upd e1).upd e2)
      clear e0 e1 e2
      refine J_seq (fun σ w => vB (σ 6) fun x6 => law01_NumPuts.p2 K x6 w) ?_ ?_
      ·
        exact sh_sound _ _ _ _ (Eq.mp (by kernel_rfl) h)
      · intro σ w h
        obtain ⟨x6, e6, h⟩ := vB_elim h
        refine J.sub ?_ ((Sub.base _).upd e6)
        clear e6
        exact sh_sound _ _ _ _ (Eq.mp (by kernel_rfl) h)

/-! ### hayloft/hayloftlaw01.NumVars: function 4 -/
abbrev law01_NumVars.p3 (K : Value → World → Prop) (x2 : Bool) (w : World) : Prop :=
  K (.bool x2) w
abbrev law01_NumVars.p2 (K : Value → World → Prop) (x0 : Int) (x3A : Option Addr) (x3n : Nat) (x3c : Nat) (w : World) : Prop :=
  CallsE Try.prog 17 #[.int .u64 x0] w (fun v9 w10 => ∃ (A11 : Option Addr) (m12 : Nat) (c13 : Nat), v9 = .slice A11 m12 c13 ∧ CallsE Try.prog 11 #[.slice A11 m12 c13, .slice x3A x3n x3c] w10 (fun v14 w15 => ∃ (b16 : Bool), v14 = .bool b16 ∧ condP b16 (CallsE Try.prog 18 #[.int .u64 x0] w15 (fun v17 w18 => ∃ (n19 : Int), v17 = .int .i64 n19 ∧ law01_NumVars.p3 K (n19 == ((x3n : Nat) : Int)) w18)) (law01_NumVars.p3 K false w15)))
abbrev law01_NumVars.p1 (K : Value → World → Prop) (x0 : Int) (w : World) : Prop :=
  CallsE Try.prog 16 #[.int .u64 x0] w (fun v4 w5 => ∃ (A6 : Option Addr) (m7 : Nat) (c8 : Nat), v4 = .slice A6 m7 c8 ∧ law01_NumVars.p2 K x0 A6 m7 c8 w5)
abbrev law01_NumVars.p0 (K : Value → World → Prop) (x0 : Int) (w : World) : Prop :=
  CallsE Try.prog 10 #[] w (fun v1 w2 => ∃ (b3 : Bool), v1 = .bool b3 ∧ condP (!b3) (K (.bool false) w2) (law01_NumVars.p1 K x0 w2))
abbrev law01_NumVars.F (q0 : Int) (K : Value → World → Prop) (w : World) : Prop :=
  law01_NumVars.p0 K q0 w
theorem law01_NumVars.ok {q0 : Int} {K : Value → World → Prop} {w : World} (h : law01_NumVars.F q0 K w) :
    CallsE Try.prog 4 #[.int .u64 q0] w K := by
  refine calls_of_J (n := 19) (rs := [.tmp 2]) Try.func4 rfl rfl rfl rfl ?_
  refine J_seq (fun σ w => vI .u64 (σ 0) fun x0 => law01_NumVars.p0 K x0 w) ?_ ?_
  ·
    exact sh_sound _ _ _ _ (Eq.mp (by kernel_rfl) h)
  · intro σ w h
    obtain ⟨x0, e0, h⟩ := vI_elim h
    refine J.sub ?_ ((Sub.base _).upd e0)
    clear e0
    refine J_seq (fun σ w => vI .u64 (σ 0) fun x0 => law01_NumVars.p1 K x0 w) ?_ ?_
    ·
      exact sh_sound _ _ _ _ (Eq.mp (by kernel_rfl) h)
    · intro σ w h
      obtain ⟨x0, e0, h⟩ := vI_elim h
      refine J.sub ?_ ((Sub.base _).upd e0)
      clear e0
      refine J_seq (fun σ w => vI .u64 (σ 0) fun x0 => vS (σ 3) fun x3A x3n x3c => law01_NumVars.p2 K x0 x3A x3n x3c w) ?_ ?_
      ·
        exact sh_sound _ _ _ _ (Eq.mp (by kernel_rfl) h)
      · intro σ w h
        obtain ⟨x0, e0, h⟩ := vI_elim h
        obtain ⟨x3A, x3n, x3c, e3, h⟩ := vS_elim h
        refine J.sub ?_ (((Sub.base _).upd e0).upd e3)
        clear e0 e3
        refine J_seq (fun σ w => vB (σ 2) fun x2 => law01_NumVars.p3 K x2 w) ?_ ?_
        ·
          exact sh_sound _ _ _ _ (Eq.mp (by kernel_rfl) h)
        · intro σ w h
          obtain ⟨x2, e2, h⟩ := vB_elim h
          refine J.sub ?_ ((Sub.base _).upd e2)
          clear e2
          exact sh_sound _ _ _ _ (Eq.mp (by kernel_rfl) h)

/-! ### hayloft/hayloftlaw01.NumOne: function 5 -/
abbrev law01_NumOne.p5 (K : Value → World → Prop) (x2 : Bool) (w : World) : Prop :=
  K (.bool x2) w
abbrev law01_NumOne.p8 (K : Value → World → Prop) (x2 : Bool) (w : World) : Prop :=
  K (.bool x2) w
abbrev law01_NumOne.p7 (K : Value → World → Prop) (x0A : Option Addr) (x0n : Nat) (x0c : Nat) (x4 : Int) (x5 : Int) (w : World) : Prop :=
  condP (decide ((0 : Int) ≤ x5)) (condP (decide (x5 ≤ ((x0n : Nat) : Int))) ((0 ≤ (IntKind.wrap .i64 (((x0n : Nat) : Int) - x5)) ∧ (IntKind.wrap .i64 (((x0n : Nat) : Int) - x5)) ≤ ((x0c : Nat) : Int)) ∧ CallsE Try.prog 17 #[.int .u64 x4] w (fun v19 w20 => ∃ (A21 : Option Addr) (m22 : Nat) (c23 : Nat), v19 = .slice A21 m22 c23 ∧ CallsE Try.prog 11 #[.slice A21 m22 c23, .slice (slA x0A 0 x0c 1) (((IntKind.wrap .i64 (((x0n : Nat) : Int) - x5)).toNat) - 0) (x0c - 0)] w20 (fun v24 w25 => ∃ (b26 : Bool), v24 = .bool b26 ∧ law01_NumOne.p8 K b26 w25))) (law01_NumOne.p8 K false w)) (law01_NumOne.p8 K false w)
abbrev law01_NumOne.p6 (K : Value → World → Prop) (x0A : Option Addr) (x0n : Nat) (x0c : Nat) (x3 : Option Addr) (x4 : Int) (w : World) : Prop :=
  CallsE Try.prog 22 #[.pointer x3] w (fun v16 w17 => ∃ (n18 : Int), v16 = .int .i64 n18 ∧ law01_NumOne.p7 K x0A x0n x0c x4 n18 w17)
abbrev law01_NumOne.p4 (K : Value → World → Prop) (x0A : Option Addr) (x0n : Nat) (x0c : Nat) (x3 : Option Addr) (x4 : Int) (x14 : Bool) (w : World) : Prop :=
  condP x14 (condP (x4 == (0 : Int)) (CallsE Try.prog 22 #[.pointer x3] w (fun v13 w14 => ∃ (n15 : Int), v13 = .int .i64 n15 ∧ law01_NumOne.p5 K (n15 == (0 : Int)) w14)) (law01_NumOne.p5 K false w)) (law01_NumOne.p6 K x0A x0n x0c x3 x4 w)
abbrev law01_NumOne.p3 (K : Value → World → Prop) (x0A : Option Addr) (x0n : Nat) (x0c : Nat) (x3 : Option Addr) (x4 : Int) (w : World) : Prop :=
  CallsE Try.prog 21 #[.pointer x3] w (fun v10 w11 => ∃ (n12 : Int), v10 = .int .i64 n12 ∧ law01_NumOne.p4 K x0A x0n x0c x3 x4 (n12 != (0 : Int)) w11)
abbrev law01_NumOne.p2 (K : Value → World → Prop) (x0A : Option Addr) (x0n : Nat) (x0c : Nat) (x3 : Option Addr) (w : World) : Prop :=
  CallsE Try.prog 20 #[.pointer x3] w (fun v7 w8 => ∃ (n9 : Int), v7 = .int .u64 n9 ∧ law01_NumOne.p3 K x0A x0n x0c x3 n9 w8)
abbrev law01_NumOne.p1 (K : Value → World → Prop) (x0A : Option Addr) (x0n : Nat) (x0c : Nat) (w : World) : Prop :=
  CallsE Try.prog 19 #[.slice x0A x0n x0c] w (fun v4 w5 => ∃ (p6 : Option Addr), v4 = .pointer p6 ∧ law01_NumOne.p2 K x0A x0n x0c p6 w5)
abbrev law01_NumOne.p0 (K : Value → World → Prop) (x0A : Option Addr) (x0n : Nat) (x0c : Nat) (w : World) : Prop :=
  CallsE Try.prog 10 #[] w (fun v1 w2 => ∃ (b3 : Bool), v1 = .bool b3 ∧ condP (!b3) (K (.bool false) w2) (law01_NumOne.p1 K x0A x0n x0c w2))
abbrev law01_NumOne.F (q0A : Option Addr) (q0n : Nat) (q0c : Nat) (K : Value → World → Prop) (w : World) : Prop :=
  law01_NumOne.p0 K q0A q0n q0c w
theorem law01_NumOne.ok {q0A : Option Addr} {q0n : Nat} {q0c : Nat} {K : Value → World → Prop} {w : World} (h : law01_NumOne.F q0A q0n q0c K w) :
    CallsE Try.prog 5 #[.slice q0A q0n q0c] w K := by
  refine calls_of_J (n := 43) (rs := [.tmp 2]) Try.func5 rfl rfl rfl rfl ?_
  refine J_seq (fun σ w => vS (σ 0) fun x0A x0n x0c => law01_NumOne.p0 K x0A x0n x0c w) ?_ ?_
  ·
    exact sh_sound _ _ _ _ (Eq.mp (by kernel_rfl) h)
  · intro σ w h
    obtain ⟨x0A, x0n, x0c, e0, h⟩ := vS_elim h
    refine J.sub ?_ ((Sub.base _).upd e0)
    clear e0
    refine J_seq (fun σ w => vS (σ 0) fun x0A x0n x0c => law01_NumOne.p1 K x0A x0n x0c w) ?_ ?_
    ·
      exact sh_sound _ _ _ _ (Eq.mp (by kernel_rfl) h)
    · intro σ w h
      obtain ⟨x0A, x0n, x0c, e0, h⟩ := vS_elim h
      refine J.sub ?_ ((Sub.base _).upd e0)
      clear e0
      refine J_seq (fun σ w => vS (σ 0) fun x0A x0n x0c => vP (σ 3) fun x3 => law01_NumOne.p2 K x0A x0n x0c x3 w) ?_ ?_
      ·
        exact sh_sound _ _ _ _ (Eq.mp (by kernel_rfl) h)
      · intro σ w h
        obtain ⟨x0A, x0n, x0c, e0, h⟩ := vS_elim h
        obtain ⟨x3, e3, h⟩ := vP_elim h
        refine J.sub ?_ (((Sub.base _).upd e0).upd e3)
        clear e0 e3
        refine J_seq (fun σ w => vS (σ 0) fun x0A x0n x0c => vP (σ 3) fun x3 => vI .u64 (σ 4) fun x4 => law01_NumOne.p3 K x0A x0n x0c x3 x4 w) ?_ ?_
        ·
          exact sh_sound _ _ _ _ (Eq.mp (by kernel_rfl) h)
        · intro σ w h
          obtain ⟨x0A, x0n, x0c, e0, h⟩ := vS_elim h
          obtain ⟨x3, e3, h⟩ := vP_elim h
          obtain ⟨x4, e4, h⟩ := vI_elim h
          refine J.sub ?_ ((((Sub.base _).upd e0).upd e3).upd e4)
          clear e0 e3 e4
          refine J_seq (fun σ w => vS (σ 0) fun x0A x0n x0c => vP (σ 3) fun x3 => vI .u64 (σ 4) fun x4 => law01_NumOne.p6 K x0A x0n x0c x3 x4 w) ?_ ?_
          ·
            refine J_seq (fun σ w => vS (σ 0) fun x0A x0n x0c => vP (σ 3) fun x3 => vI .u64 (σ 4) fun x4 => vB (σ 14) fun x14 => law01_NumOne.p4 K x0A x0n x0c x3 x4 x14 w) ?_ ?_
            ·
              exact sh_sound _ _ _ _ (Eq.mp (by kernel_rfl) h)
            · intro σ w h
              obtain ⟨x0A, x0n, x0c, e0, h⟩ := vS_elim h
              obtain ⟨x3, e3, h⟩ := vP_elim h
              obtain ⟨x4, e4, h⟩ := vI_elim h
              obtain ⟨x14, e14, h⟩ := vB_elim h
              refine J.sub ?_ (((((Sub.base _).upd e0).upd e3).upd e4).upd e14)
              clear e0 e3 e4 e14
              refine J_cond' h (by kernel_rfl) (fun h => ?_) (fun h => ?_)
              ·
                refine J_seq (fun σ w => vB (σ 2) fun x2 => law01_NumOne.p5 K x2 w) ?_ ?_
                ·
                  exact sh_sound _ _ _ _ (Eq.mp (by kernel_rfl) h)
                · intro σ w h
                  obtain ⟨x2, e2, h⟩ := vB_elim h
                  refine J.sub ?_ ((Sub.base _).upd e2)
                  clear e2
                  exact sh_sound _ _ _ _ (Eq.mp (by kernel_rfl) h)
              ·
                exact sh_sound _ _ _ _ (Eq.mp (by kernel_rfl) h)
          · intro σ w h
            obtain ⟨x0A, x0n, x0c, e0, h⟩ := vS_elim h
            obtain ⟨x3, e3, h⟩ := vP_elim h
            obtain ⟨x4, e4, h⟩ := vI_elim h
            refine J.sub ?_ ((((Sub.base _).upd e0).upd e3).upd e4)
            clear e0 e3 e4
            refine J_seq (fun σ w => vS (σ 0) fun x0A x0n x0c => vI .u64 (σ 4) fun x4 => vI .i64 (σ 5) fun x5 => law01_NumOne.p7 K x0A x0n x0c x4 x5 w) ?_ ?_
            ·
              exact sh_sound _ _ _ _ (Eq.mp (by kernel_rfl) h)
            · intro σ w h
              obtain ⟨x0A, x0n, x0c, e0, h⟩ := vS_elim h
              obtain ⟨x4, e4, h⟩ := vI_elim h
              obtain ⟨x5, e5, h⟩ := vI_elim h
              refine J.sub ?_ ((((Sub.base _).upd e0).upd e4).upd e5)
              clear e0 e4 e5
              refine J_seq (fun σ w => vB (σ 2) fun x2 => law01_NumOne.p8 K x2 w) ?_ ?_
              ·
                exact J_held [17, 10] [(0, 0), (1, 0), (2, 0), (3, 0), (4, 0), (5, 0), (6, 0), (7, 0), (8, 0), (9, 0), (11, 0), (12, 0), (13, 0), (14, 0), (15, 0), (16, 0), (10, 3), (17, 3), (18, 0), (19, 0)] (by kernel_rfl) ⟨fun _ => True, trivial, Eq.mp (by kernel_rfl) h⟩
              · intro σ w h
                obtain ⟨x2, e2, h⟩ := vB_elim h
                refine J.sub ?_ ((Sub.base _).upd e2)
                clear e2
                exact sh_sound _ _ _ _ (Eq.mp (by kernel_rfl) h)

/-! ### hayloft/hayloftlaw01.NumOrder: function 6 -/
abbrev law01_NumOrder.p3 (K : Value → World → Prop) (x4 : Bool) (w : World) : Prop :=
  K (.bool x4) w
abbrev law01_NumOrder.p2 (K : Value → World → Prop) (x0 : Int) (x1 : Int) (x5 : Int) (x6 : Int) (w : World) : Prop :=
  CallsE Try.prog 18 #[.int .u64 x5] w (fun v4 w5 => ∃ (n6 : Int), v4 = .int .i64 n6 ∧ CallsE Try.prog 18 #[.int .u64 x6] w5 (fun v7 w8 => ∃ (n9 : Int), v7 = .int .i64 n9 ∧ condP (decide (n6 ≤ n9)) (CallsE Try.prog 18 #[.int .u64 x6] w8 (fun v10 w11 => ∃ (n12 : Int), v10 = .int .i64 n12 ∧ condP (decide (n12 ≤ (10 : Int))) (CallsE Try.prog 12 #[.int .u64 x0, .int .i64 8] w11 (fun v13 w14 => ∃ (A15 : Option Addr) (m16 : Nat) (c17 : Nat), v13 = .slice A15 m16 c17 ∧ CallsE Try.prog 14 #[.slice A15 m16 c17] w14 (fun v18 w19 => ∃ (n20 : Int), v18 = .int .u64 n20 ∧ condP (n20 == x0) (CallsE Try.prog 12 #[.int .u64 x1, .int .i64 9] w19 (fun v21 w22 => ∃ (A23 : Option Addr) (m24 : Nat) (c25 : Nat), v21 = .slice A23 m24 c25 ∧ CallsE Try.prog 14 #[.slice A23 m24 c25] w22 (fun v26 w27 => ∃ (n28 : Int), v26 = .int .u64 n28 ∧ condP (n28 == x1) (CallsE Try.prog 12 #[.int .u64 x0, .int .i64 8] w27 (fun v29 w30 => ∃ (A31 : Option Addr) (m32 : Nat) (c33 : Nat), v29 = .slice A31 m32 c33 ∧ condP (((m32 : Nat) : Int) == (8 : Int)) (CallsE Try.prog 17 #[.int .u64 x1] w30 (fun v34 w35 => ∃ (A36 : Option Addr) (m37 : Nat) (c38 : Nat), v34 = .slice A36 m37 c38 ∧ CallsE Try.prog 18 #[.int .u64 x1] w35 (fun v39 w40 => ∃ (n41 : Int), v39 = .int .i64 n41 ∧ law01_NumOrder.p3 K (((m37 : Nat) : Int) == n41) w40))) (law01_NumOrder.p3 K false w30))) (law01_NumOrder.p3 K false w27)))) (law01_NumOrder.p3 K false w19)))) (law01_NumOrder.p3 K false w11))) (law01_NumOrder.p3 K false w8)))
abbrev law01_NumOrder.p1 (K : Value → World → Prop) (x0 : Int) (x1 : Int) (w : World) : Prop :=
  law01_NumOrder.p2 K x0 x1 (imin x0 x1) (imax x0 x1) w
abbrev law01_NumOrder.p0 (K : Value → World → Prop) (x0 : Int) (x1 : Int) (w : World) : Prop :=
  CallsE Try.prog 10 #[] w (fun v1 w2 => ∃ (b3 : Bool), v1 = .bool b3 ∧ condP (!b3) (K (.bool false) w2) (law01_NumOrder.p1 K x0 x1 w2))
abbrev law01_NumOrder.F (q0 : Int) (q1 : Int) (K : Value → World → Prop) (w : World) : Prop :=
  law01_NumOrder.p0 K q0 q1 w
theorem law01_NumOrder.ok {q0 : Int} {q1 : Int} {K : Value → World → Prop} {w : World} (h : law01_NumOrder.F q0 q1 K w) :
    CallsE Try.prog 6 #[.int .u64 q0, .int .u64 q1] w K := by
  refine calls_of_J (n := 53) (rs := [.tmp 4]) Try.func6 rfl rfl rfl rfl ?_
  refine J_seq (fun σ w => vI .u64 (σ 0) fun x0 => vI .u64 (σ 1) fun x1 => law01_NumOrder.p0 K x0 x1 w) ?_ ?_
  ·
    exact sh_sound _ _ _ _ (Eq.mp (by kernel_rfl) h)
  · intro σ w h
    obtain ⟨x0, e0, h⟩ := vI_elim h
    obtain ⟨x1, e1, h⟩ := vI_elim h
    refine J.sub ?_ (((Sub.base _).upd e0).upd e1)
    clear e0 e1
    refine J_seq (fun σ w => vI .u64 (σ 0) fun x0 => vI .u64 (σ 1) fun x1 => law01_NumOrder.p1 K x0 x1 w) ?_ ?_
    ·
      exact sh_sound _ _ _ _ (Eq.mp (by kernel_rfl) h)
    · intro σ w h
      obtain ⟨x0, e0, h⟩ := vI_elim h
      obtain ⟨x1, e1, h⟩ := vI_elim h
      refine J.sub ?_ (((Sub.base _).upd e0).upd e1)
      clear e0 e1
      refine J_seq (fun σ w => vI .u64 (σ 0) fun x0 => vI .u64 (σ 1) fun x1 => vI .u64 (σ 5) fun x5 => vI .u64 (σ 6) fun x6 => law01_NumOrder.p2 K x0 x1 x5 x6 w) ?_ ?_
      ·
        exact sh_sound _ _ _ _ (Eq.mp (by kernel_rfl) h)
      · intro σ w h
        obtain ⟨x0, e0, h⟩ := vI_elim h
        obtain ⟨x1, e1, h⟩ := vI_elim h
        obtain ⟨x5, e5, h⟩ := vI_elim h
        obtain ⟨x6, e6, h⟩ := vI_elim h
        refine J.sub ?_ (((((Sub.base _).upd e0).upd e1).upd e5).upd e6)
        clear e0 e1 e5 e6
        refine J_seq (fun σ w => vB (σ 4) fun x4 => law01_NumOrder.p3 K x4 w) ?_ ?_
        ·
          exact sh_sound _ _ _ _ (Eq.mp (by kernel_rfl) h)
        · intro σ w h
          obtain ⟨x4, e4, h⟩ := vB_elim h
          refine J.sub ?_ ((Sub.base _).upd e4)
          clear e4
          exact sh_sound _ _ _ _ (Eq.mp (by kernel_rfl) h)

/-! ### hayloft/hayloftlaw01.NumBack: function 7 -/
abbrev law01_NumBack.p7 (L0 : Option Addr → Nat → Nat → Option Addr → Nat → Nat → Option Addr → Nat → Nat → Int → Int → World → Prop) (K : Value → World → Prop) (x0A : Option Addr) (x0n : Nat) (x0c : Nat) (x3A : Option Addr) (x3n : Nat) (x3c : Nat) (x14A : Option Addr) (x14n : Nat) (x14c : Nat) (x15 : Int) (x16 : Int) (w : World) : Prop :=
  L0 x0A x0n x0c x3A x3n x3c x14A x14n x14c x15 (IntKind.wrap .i64 (x16 + (1 : Int))) w
abbrev law01_NumBack.p6 (L0 : Option Addr → Nat → Nat → Option Addr → Nat → Nat → Option Addr → Nat → Nat → Int → Int → World → Prop) (K : Value → World → Prop) (x0A : Option Addr) (x0n : Nat) (x0c : Nat) (x3A : Option Addr) (x3n : Nat) (x3c : Nat) (x14A : Option Addr) (x14n : Nat) (x14c : Nat) (x15 : Int) (x16 : Int) (w : World) : Prop :=
  (0 ≤ x16 ∧ x16 < ((x14n : Nat) : Int)) ∧ ∃ (a4 : Addr), x14A = some a4 ∧ ∃ (n5 : Int), w.cell? (a4.add (x16.toNat * 4)) = some (.int .i64 n5) ∧ ∃ (n6 : Int), w.cell? ((a4.add (x16.toNat * 4)).add 1) = some (.int .i64 n6) ∧ ∃ (n7 : Int), w.cell? ((a4.add (x16.toNat * 4)).add 2) = some (.int .u64 n7) ∧ ∃ (A8 : Option Addr) (m9 : Nat) (c10 : Nat), w.cell? ((a4.add (x16.toNat * 4)).add 3) = some (.slice A8 m9 c10) ∧ wlet (w.alloc (.cells #[.int .i64 0, .int .i64 0, .int .u64 0, .slice none 0 0] 42)) fun w11 => canStore w11 (⟨w.heap.size, 0, none⟩) ∧ wlet (w11.setCell (⟨w.heap.size, 0, none⟩) (.int .i64 n5)) fun w12 => canStore w12 (⟨w.heap.size, 1, none⟩) ∧ wlet (w12.setCell (⟨w.heap.size, 1, none⟩) (.int .i64 n6)) fun w13 => canStore w13 (⟨w.heap.size, 2, none⟩) ∧ wlet (w13.setCell (⟨w.heap.size, 2, none⟩) (.int .u64 n7)) fun w14 => canStore w14 (⟨w.heap.size, 3, none⟩) ∧ wlet (w14.setCell (⟨w.heap.size, 3, none⟩) (.slice A8 m9 c10)) fun w15 => ∃ (A16 : Option Addr) (m17 : Nat) (c18 : Nat), w15.cell? (⟨w.heap.size, 3, none⟩) = some (.slice A16 m17 c18) ∧ condP (decide ((1000 : Int) < ((m17 : Nat) : Int))) (K (.bool true) w15) (∃ (n19 : Int), w15.cell? (⟨w.heap.size, 0, none⟩) = some (.int .i64 n19) ∧ condP (n19 == (0 : Int)) (∃ (n20 : Int), w15.cell? (⟨w.heap.size, 2, none⟩) = some (.int .u64 n20) ∧ CallsE Try.prog 17 #[.int .u64 n20] w15 (fun v21 w22 => ∃ (A23 : Option Addr) (m24 : Nat) (c25 : Nat), v21 = .slice A23 m24 c25 ∧ SemJ Try.prog (Builtin.append_ #[23, 23] 23 #[.slice x3A x3n x3c, .slice A23 m24 c25]) (fun v26 w27 => ∃ (A28 : Option Addr) (m29 : Nat) (c30 : Nat), v26 = .slice A28 m29 c30 ∧ law01_NumBack.p7 L0 K x0A x0n x0c A28 m29 c30 x14A x14n x14c x15 x16 w27) w22)) (condP (n19 == (1 : Int)) (∃ (n31 : Int), w15.cell? (⟨w.heap.size, 2, none⟩) = some (.int .u64 n31) ∧ CallsE Try.prog 12 #[.int .u64 n31, .int .i64 8] w15 (fun v32 w33 => ∃ (A34 : Option Addr) (m35 : Nat) (c36 : Nat), v32 = .slice A34 m35 c36 ∧ SemJ Try.prog (Builtin.append_ #[23, 23] 23 #[.slice x3A x3n x3c, .slice A34 m35 c36]) (fun v37 w38 => ∃ (A39 : Option Addr) (m40 : Nat) (c41 : Nat), v37 = .slice A39 m40 c41 ∧ law01_NumBack.p7 L0 K x0A x0n x0c A39 m40 c41 x14A x14n x14c x15 x16 w38) w33)) (∃ (A42 : Option Addr) (m43 : Nat) (c44 : Nat), w15.cell? (⟨w.heap.size, 3, none⟩) = some (.slice A42 m43 c44) ∧ SemJ Try.prog (Builtin.append_ #[23, 23] 23 #[.slice x3A x3n x3c, .slice A42 m43 c44]) (fun v45 w46 => ∃ (A47 : Option Addr) (m48 : Nat) (c49 : Nat), v45 = .slice A47 m48 c49 ∧ law01_NumBack.p7 L0 K x0A x0n x0c A47 m48 c49 x14A x14n x14c x15 x16 w46) w15)))
abbrev law01_NumBack.p17 (L1 : Option Addr → Option Addr → Nat → Nat → Int → Int → World → Prop) (K : Value → World → Prop) (x6 : Option Addr) (x47A : Option Addr) (x47n : Nat) (x47c : Nat) (x48 : Int) (x49 : Int) (w : World) : Prop :=
  L1 x6 x47A x47n x47c x48 (IntKind.wrap .i64 (x49 + (1 : Int))) w
abbrev law01_NumBack.p16 (L1 : Option Addr → Option Addr → Nat → Nat → Int → Int → World → Prop) (K : Value → World → Prop) (x6 : Option Addr) (x47A : Option Addr) (x47n : Nat) (x47c : Nat) (x48 : Int) (x49 : Int) (x72 : Bool) (w : World) : Prop :=
  condP x72 (K (.bool false) w) (law01_NumBack.p17 L1 K x6 x47A x47n x47c x48 x49 w)
abbrev law01_NumBack.p19 (L1 : Option Addr → Option Addr → Nat → Nat → Int → Int → World → Prop) (K : Value → World → Prop) (x6 : Option Addr) (x47A : Option Addr) (x47n : Nat) (x47c : Nat) (x48 : Int) (x49 : Int) (x79 : Bool) (w : World) : Prop :=
  condP x79 (K (.bool false) w) (law01_NumBack.p17 L1 K x6 x47A x47n x47c x48 x49 w)
abbrev law01_NumBack.p20 (L1 : Option Addr → Option Addr → Nat → Nat → Int → Int → World → Prop) (K : Value → World → Prop) (x6 : Option Addr) (x47A : Option Addr) (x47n : Nat) (x47c : Nat) (x48 : Int) (x49 : Int) (x63 : Bool) (w : World) : Prop :=
  condP x63 (K (.bool false) w) (law01_NumBack.p17 L1 K x6 x47A x47n x47c x48 x49 w)
abbrev law01_NumBack.p18 (L1 : Option Addr → Option Addr → Nat → Nat → Int → Int → World → Prop) (K : Value → World → Prop) (x6 : Option Addr) (x8 : Addr) (x47A : Option Addr) (x47n : Nat) (x47c : Nat) (x48 : Int) (x49 : Int) (x73 : Bool) (w : World) : Prop :=
  condP x73 (∃ (S72 : Array Obj → Prop), S72 w.heap ∧ ∃ (n73 : Int), (∀ w' : World, S72 w'.heap → w'.cell? (x8.add 2) = some (.int .u64 n73)) ∧ CallsE Try.prog 24 #[.pointer x6, .int .i64 8] w (fun v74 w75 => ∃ (n76 : Int), v74 = .int .u64 n76 ∧ S72 w75.heap ∧ law01_NumBack.p19 L1 K x6 x47A x47n x47c x48 x49 (n76 != n73) w75)) (∃ (S77 : Array Obj → Prop), S77 w.heap ∧ ∃ (A78 : Option Addr) (m79 : Nat) (c80 : Nat), (∀ w' : World, S77 w'.heap → w'.cell? (x8.add 3) = some (.slice A78 m79 c80)) ∧ ∃ (A81 : Option Addr) (m82 : Nat) (c83 : Nat), (∀ w' : World, S77 w'.heap → w'.cell? (x8.add 3) = some (.slice A81 m82 c83)) ∧ CallsE Try.prog 25 #[.pointer x6, .int .i64 ((m79 : Nat) : Int)] w (fun v84 w85 => ∃ (A86 : Option Addr) (m87 : Nat) (c88 : Nat), v84 = .slice A86 m87 c88 ∧ S77 w85.heap ∧ CallsE Try.prog 11 #[.slice A86 m87 c88, .slice A81 m82 c83] w85 (fun v89 w90 => ∃ (b91 : Bool), v89 = .bool b91 ∧ S77 w90.heap ∧ law01_NumBack.p20 L1 K x6 x47A x47n x47c x48 x49 (!b91) w90)))
abbrev law01_NumBack.p15 (L1 : Option Addr → Option Addr → Nat → Nat → Int → Int → World → Prop) (K : Value → World → Prop) (x6 : Option Addr) (x8 : Addr) (x47A : Option Addr) (x47n : Nat) (x47c : Nat) (x48 : Int) (x49 : Int) (x54 : Int) (x64 : Bool) (w : World) : Prop :=
  condP x64 (∃ (S66 : Array Obj → Prop), S66 w.heap ∧ ∃ (n67 : Int), (∀ w' : World, S66 w'.heap → w'.cell? (x8.add 2) = some (.int .u64 n67)) ∧ ∃ (n68 : Int), (∀ w' : World, S66 w'.heap → w'.cell? (x8.add 2) = some (.int .u64 n68)) ∧ CallsE Try.prog 23 #[.pointer x6, .int .u64 n67] w (fun v69 w70 => ∃ (n71 : Int), v69 = .int .u64 n71 ∧ S66 w70.heap ∧ law01_NumBack.p16 L1 K x6 x47A x47n x47c x48 x49 (n71 != n68) w70)) (law01_NumBack.p18 L1 K x6 x8 x47A x47n x47c x48 x49 (x54 == (1 : Int)) w)
abbrev law01_NumBack.p14 (L1 : Option Addr → Option Addr → Nat → Nat → Int → Int → World → Prop) (K : Value → World → Prop) (x6 : Option Addr) (x8 : Addr) (x47A : Option Addr) (x47n : Nat) (x47c : Nat) (x48 : Int) (x49 : Int) (x54 : Int) (w : World) : Prop :=
  law01_NumBack.p15 L1 K x6 x8 x47A x47n x47c x48 x49 x54 (x54 == (0 : Int)) w
abbrev law01_NumBack.p13 (L1 : Option Addr → Option Addr → Nat → Nat → Int → Int → World → Prop) (K : Value → World → Prop) (x6 : Option Addr) (x8 : Addr) (x47A : Option Addr) (x47n : Nat) (x47c : Nat) (x48 : Int) (x49 : Int) (w : World) : Prop :=
  ∃ (n65 : Int), w.cell? x8 = some (.int .i64 n65) ∧ law01_NumBack.p14 L1 K x6 x8 x47A x47n x47c x48 x49 n65 w
abbrev law01_NumBack.p12 (L1 : Option Addr → Option Addr → Nat → Nat → Int → Int → World → Prop) (K : Value → World → Prop) (x6 : Option Addr) (x47A : Option Addr) (x47n : Nat) (x47c : Nat) (x48 : Int) (x49 : Int) (w : World) : Prop :=
  (0 ≤ x49 ∧ x49 < ((x47n : Nat) : Int)) ∧ ∃ (a53 : Addr), x47A = some a53 ∧ ∃ (n54 : Int), w.cell? (a53.add (x49.toNat * 4)) = some (.int .i64 n54) ∧ ∃ (n55 : Int), w.cell? ((a53.add (x49.toNat * 4)).add 1) = some (.int .i64 n55) ∧ ∃ (n56 : Int), w.cell? ((a53.add (x49.toNat * 4)).add 2) = some (.int .u64 n56) ∧ ∃ (A57 : Option Addr) (m58 : Nat) (c59 : Nat), w.cell? ((a53.add (x49.toNat * 4)).add 3) = some (.slice A57 m58 c59) ∧ wlet (w.alloc (.cells #[.int .i64 0, .int .i64 0, .int .u64 0, .slice none 0 0] 42)) fun w60 => canStore w60 (⟨w.heap.size, 0, none⟩) ∧ wlet (w60.setCell (⟨w.heap.size, 0, none⟩) (.int .i64 n54)) fun w61 => canStore w61 (⟨w.heap.size, 1, none⟩) ∧ wlet (w61.setCell (⟨w.heap.size, 1, none⟩) (.int .i64 n55)) fun w62 => canStore w62 (⟨w.heap.size, 2, none⟩) ∧ wlet (w62.setCell (⟨w.heap.size, 2, none⟩) (.int .u64 n56)) fun w63 => canStore w63 (⟨w.heap.size, 3, none⟩) ∧ wlet (w63.setCell (⟨w.heap.size, 3, none⟩) (.slice A57 m58 c59)) fun w64 => law01_NumBack.p13 L1 K x6 (⟨w.heap.size, 0, none⟩) x47A x47n x47c x48 x49 w64
abbrev law01_NumBack.p22 (K : Value → World → Prop) (x2 : Bool) (w : World) : Prop :=
  K (.bool x2) w
abbrev law01_NumBack.p21 (K : Value → World → Prop) (x6 : Option Addr) (w : World) : Prop :=
  CallsE Try.prog 21 #[.pointer x6] w (fun v92 w93 => ∃ (n94 : Int), v92 = .int .i64 n94 ∧ condP (n94 == (0 : Int)) (CallsE Try.prog 26 #[.pointer x6] w93 (fun v95 w96 => ∃ (n97 : Int), v95 = .int .i64 n97 ∧ condP (n97 == (0 : Int)) (CallsE Try.prog 22 #[.pointer x6] w96 (fun v98 w99 => ∃ (n100 : Int), v98 = .int .i64 n100 ∧ law01_NumBack.p22 K (n100 == (0 : Int)) w99)) (law01_NumBack.p22 K false w96))) (law01_NumBack.p22 K false w93))
abbrev law01_NumBack.p11 (L1 : Option Addr → Option Addr → Nat → Nat → Int → Int → World → Prop) (K : Value → World → Prop) (x6 : Option Addr) (x47A : Option Addr) (x47n : Nat) (x47c : Nat) (x48 : Int) (x49 : Int) (x50 : Bool) (w : World) : Prop :=
  condP x50 (law01_NumBack.p12 L1 K x6 x47A x47n x47c x48 x49 w) (law01_NumBack.p21 K x6 w)
abbrev law01_NumBack.b1 (L1 : Option Addr → Option Addr → Nat → Nat → Int → Int → World → Prop) (K : Value → World → Prop) (x6 : Option Addr) (x47A : Option Addr) (x47n : Nat) (x47c : Nat) (x48 : Int) (x49 : Int) (w : World) : Prop :=
  law01_NumBack.p11 L1 K x6 x47A x47n x47c x48 x49 (decide (x49 < x48)) w
def law01_NumBack.l1 (K : Value → World → Prop) (k : Nat) : Option Addr → Option Addr → Nat → Nat → Int → Int → World → Prop :=
  Nat.rec (motive := fun _ => Option Addr → Option Addr → Nat → Nat → Int → Int → World → Prop) (fun _ _ _ _ _ _ _ => False) (fun _ ih => law01_NumBack.b1 ih K) k
theorem law01_NumBack.l1_succ (K : Value → World → Prop) (k : Nat) (x6 : Option Addr) (x47A : Option Addr) (x47n : Nat) (x47c : Nat) (x48 : Int) (x49 : Int) (w : World) : law01_NumBack.l1 K (k + 1) x6 x47A x47n x47c x48 x49 w = law01_NumBack.b1 (law01_NumBack.l1 K k) K x6 x47A x47n x47c x48 x49 w := rfl
abbrev law01_NumBack.p10 (K : Value → World → Prop) (x6 : Option Addr) (x47A : Option Addr) (x47n : Nat) (x47c : Nat) (x48 : Int) (x49 : Int) (w : World) : Prop :=
  ∃ k, law01_NumBack.l1 K k x6 x47A x47n x47c x48 x49 w
abbrev law01_NumBack.p9 (K : Value → World → Prop) (x0A : Option Addr) (x0n : Nat) (x0c : Nat) (x6 : Option Addr) (w : World) : Prop :=
  law01_NumBack.p10 K x6 x0A x0n x0c ((x0n : Nat) : Int) 0 w
abbrev law01_NumBack.p8 (K : Value → World → Prop) (x0A : Option Addr) (x0n : Nat) (x0c : Nat) (x3A : Option Addr) (x3n : Nat) (x3c : Nat) (w : World) : Prop :=
  CallsE Try.prog 19 #[.slice x3A x3n x3c] w (fun v50 w51 => ∃ (p52 : Option Addr), v50 = .pointer p52 ∧ law01_NumBack.p9 K x0A x0n x0c p52 w51)
abbrev law01_NumBack.p5 (L0 : Option Addr → Nat → Nat → Option Addr → Nat → Nat → Option Addr → Nat → Nat → Int → Int → World → Prop) (K : Value → World → Prop) (x0A : Option Addr) (x0n : Nat) (x0c : Nat) (x3A : Option Addr) (x3n : Nat) (x3c : Nat) (x14A : Option Addr) (x14n : Nat) (x14c : Nat) (x15 : Int) (x16 : Int) (x17 : Bool) (w : World) : Prop :=
  condP x17 (law01_NumBack.p6 L0 K x0A x0n x0c x3A x3n x3c x14A x14n x14c x15 x16 w) (law01_NumBack.p8 K x0A x0n x0c x3A x3n x3c w)
abbrev law01_NumBack.b0 (L0 : Option Addr → Nat → Nat → Option Addr → Nat → Nat → Option Addr → Nat → Nat → Int → Int → World → Prop) (K : Value → World → Prop) (x0A : Option Addr) (x0n : Nat) (x0c : Nat) (x3A : Option Addr) (x3n : Nat) (x3c : Nat) (x14A : Option Addr) (x14n : Nat) (x14c : Nat) (x15 : Int) (x16 : Int) (w : World) : Prop :=
  law01_NumBack.p5 L0 K x0A x0n x0c x3A x3n x3c x14A x14n x14c x15 x16 (decide (x16 < x15)) w
def law01_NumBack.l0 (K : Value → World → Prop) (k : Nat) : Option Addr → Nat → Nat → Option Addr → Nat → Nat → Option Addr → Nat → Nat → Int → Int → World → Prop :=
  Nat.rec (motive := fun _ => Option Addr → Nat → Nat → Option Addr → Nat → Nat → Option Addr → Nat → Nat → Int → Int → World → Prop) (fun _ _ _ _ _ _ _ _ _ _ _ _ => False) (fun _ ih => law01_NumBack.b0 ih K) k
theorem law01_NumBack.l0_succ (K : Value → World → Prop) (k : Nat) (x0A : Option Addr) (x0n : Nat) (x0c : Nat) (x3A : Option Addr) (x3n : Nat) (x3c : Nat) (x14A : Option Addr) (x14n : Nat) (x14c : Nat) (x15 : Int) (x16 : Int) (w : World) : law01_NumBack.l0 K (k + 1) x0A x0n x0c x3A x3n x3c x14A x14n x14c x15 x16 w = law01_NumBack.b0 (law01_NumBack.l0 K k) K x0A x0n x0c x3A x3n x3c x14A x14n x14c x15 x16 w := rfl
abbrev law01_NumBack.p4 (K : Value → World → Prop) (x0A : Option Addr) (x0n : Nat) (x0c : Nat) (x3A : Option Addr) (x3n : Nat) (x3c : Nat) (x14A : Option Addr) (x14n : Nat) (x14c : Nat) (x15 : Int) (x16 : Int) (w : World) : Prop :=
  ∃ k, law01_NumBack.l0 K k x0A x0n x0c x3A x3n x3c x14A x14n x14c x15 x16 w
abbrev law01_NumBack.p3 (K : Value → World → Prop) (x0A : Option Addr) (x0n : Nat) (x0c : Nat) (x3A : Option Addr) (x3n : Nat) (x3c : Nat) (w : World) : Prop :=
  law01_NumBack.p4 K x0A x0n x0c x3A x3n x3c x0A x0n x0c ((x0n : Nat) : Int) 0 w
abbrev law01_NumBack.p2 (K : Value → World → Prop) (x0A : Option Addr) (x0n : Nat) (x0c : Nat) (w : World) : Prop :=
  law01_NumBack.p3 K x0A x0n x0c none 0 0 w
abbrev law01_NumBack.p1 (K : Value → World → Prop) (x0A : Option Addr) (x0n : Nat) (x0c : Nat) (w : World) : Prop :=
  condP (decide ((100 : Int) < ((x0n : Nat) : Int))) (K (.bool true) w) (law01_NumBack.p2 K x0A x0n x0c w)
abbrev law01_NumBack.p0 (K : Value → World → Prop) (x0A : Option Addr) (x0n : Nat) (x0c : Nat) (w : World) : Prop :=
  CallsE Try.prog 10 #[] w (fun v1 w2 => ∃ (b3 : Bool), v1 = .bool b3 ∧ condP (!b3) (K (.bool false) w2) (law01_NumBack.p1 K x0A x0n x0c w2))
abbrev law01_NumBack.F (q0A : Option Addr) (q0n : Nat) (q0c : Nat) (K : Value → World → Prop) (w : World) : Prop :=
  law01_NumBack.p0 K q0A q0n q0c w
theorem law01_NumBack.ok {q0A : Option Addr} {q0n : Nat} {q0c : Nat} {K : Value → World → Prop} {w : World} (h : law01_NumBack.F q0A q0n q0c K w) :
    CallsE Try.prog 7 #[.slice q0A q0n q0c] w K := by
  refine calls_of_J (n := 94) (rs := [.tmp 2]) Try.func7 rfl rfl rfl rfl ?_
  refine J_seq (fun σ w => vS (σ 0) fun x0A x0n x0c => law01_NumBack.p0 K x0A x0n x0c w) ?_ ?_
  ·
    exact sh_sound _ _ _ _ (Eq.mp (by kernel_rfl) h)
  · intro σ w h
    obtain ⟨x0A, x0n, x0c, e0, h⟩ := vS_elim h
    refine J.sub ?_ ((Sub.base _).upd e0)
    clear e0
    refine J_seq (fun σ w => vS (σ 0) fun x0A x0n x0c => law01_NumBack.p1 K x0A x0n x0c w) ?_ ?_
    ·
      exact sh_sound _ _ _ _ (Eq.mp (by kernel_rfl) h)
    · intro σ w h
      obtain ⟨x0A, x0n, x0c, e0, h⟩ := vS_elim h
      refine J.sub ?_ ((Sub.base _).upd e0)
      clear e0
      refine J_seq (fun σ w => vS (σ 0) fun x0A x0n x0c => law01_NumBack.p2 K x0A x0n x0c w) ?_ ?_
      ·
        exact sh_sound _ _ _ _ (Eq.mp (by kernel_rfl) h)
      · intro σ w h
        obtain ⟨x0A, x0n, x0c, e0, h⟩ := vS_elim h
        refine J.sub ?_ ((Sub.base _).upd e0)
        clear e0
        refine J_seq (fun σ w => vS (σ 0) fun x0A x0n x0c => vS (σ 3) fun x3A x3n x3c => law01_NumBack.p3 K x0A x0n x0c x3A x3n x3c w) ?_ ?_
        ·
          exact sh_sound _ _ _ _ (Eq.mp (by kernel_rfl) h)
        · intro σ w h
          obtain ⟨x0A, x0n, x0c, e0, h⟩ := vS_elim h
          obtain ⟨x3A, x3n, x3c, e3, h⟩ := vS_elim h
          refine J.sub ?_ (((Sub.base _).upd e0).upd e3)
          clear e0 e3
          refine J_seq (fun σ w => vS (σ 0) fun x0A x0n x0c => vS (σ 3) fun x3A x3n x3c => law01_NumBack.p8 K x0A x0n x0c x3A x3n x3c w) ?_ ?_
          ·
            refine J_seq (fun σ w => vS (σ 0) fun x0A x0n x0c => vS (σ 3) fun x3A x3n x3c => vS (σ 14) fun x14A x14n x14c => vI .i64 (σ 15) fun x15 => vI .i64 (σ 16) fun x16 => law01_NumBack.p4 K x0A x0n x0c x3A x3n x3c x14A x14n x14c x15 x16 w) ?_ ?_
            ·
              exact sh_sound _ _ _ _ (Eq.mp (by kernel_rfl) h)
            · intro σ w h
              obtain ⟨x0A, x0n, x0c, e0, h⟩ := vS_elim h
              obtain ⟨x3A, x3n, x3c, e3, h⟩ := vS_elim h
              obtain ⟨x14A, x14n, x14c, e14, h⟩ := vS_elim h
              obtain ⟨x15, e15, h⟩ := vI_elim h
              obtain ⟨x16, e16, h⟩ := vI_elim h
              refine J.sub ?_ ((((((Sub.base _).upd e0).upd e3).upd e14).upd e15).upd e16)
              clear e0 e3 e14 e15 e16
              refine J_block ?_
              refine J_loop (fun k σ w => vS (σ 0) fun x0A x0n x0c => vS (σ 3) fun x3A x3n x3c => vS (σ 14) fun x14A x14n x14c => vI .i64 (σ 15) fun x15 => vI .i64 (σ 16) fun x16 => law01_NumBack.l0 K k x0A x0n x0c x3A x3n x3c x14A x14n x14c x15 x16 w) (Eq.mp (by kernel_rfl) h) ?_ ?_
              · intro σ w h
                obtain ⟨x0A, x0n, x0c, e0, h⟩ := vS_elim h
                obtain ⟨x3A, x3n, x3c, e3, h⟩ := vS_elim h
                obtain ⟨x14A, x14n, x14c, e14, h⟩ := vS_elim h
                obtain ⟨x15, e15, h⟩ := vI_elim h
                obtain ⟨x16, e16, h⟩ := vI_elim h
                exact h
              · intro k0 σ w h
                obtain ⟨x0A, x0n, x0c, e0, h⟩ := vS_elim h
                obtain ⟨x3A, x3n, x3c, e3, h⟩ := vS_elim h
                obtain ⟨x14A, x14n, x14c, e14, h⟩ := vS_elim h
                obtain ⟨x15, e15, h⟩ := vI_elim h
                obtain ⟨x16, e16, h⟩ := vI_elim h
                refine J.sub ?_ ((((((Sub.base _).upd e0).upd e3).upd e14).upd e15).upd e16)
                clear e0 e3 e14 e15 e16
                refine J_seq (fun σ w => vS (σ 0) fun x0A x0n x0c => vS (σ 3) fun x3A x3n x3c => vS (σ 14) fun x14A x14n x14c => vI .i64 (σ 15) fun x15 => vI .i64 (σ 16) fun x16 => vB (σ 17) fun x17 => law01_NumBack.p5 (law01_NumBack.l0 K k0) K x0A x0n x0c x3A x3n x3c x14A x14n x14c x15 x16 x17 w) ?_ ?_
                ·
                  exact sh_sound _ _ _ _ (Eq.mp (by kernel_rfl) h)
                · intro σ w h
                  obtain ⟨x0A, x0n, x0c, e0, h⟩ := vS_elim h
                  obtain ⟨x3A, x3n, x3c, e3, h⟩ := vS_elim h
                  obtain ⟨x14A, x14n, x14c, e14, h⟩ := vS_elim h
                  obtain ⟨x15, e15, h⟩ := vI_elim h
                  obtain ⟨x16, e16, h⟩ := vI_elim h
                  obtain ⟨x17, e17, h⟩ := vB_elim h
                  refine J.sub ?_ (((((((Sub.base _).upd e0).upd e3).upd e14).upd e15).upd e16).upd e17)
                  clear e0 e3 e14 e15 e16 e17
                  refine J_seq (fun σ w => vS (σ 0) fun x0A x0n x0c => vS (σ 3) fun x3A x3n x3c => vS (σ 14) fun x14A x14n x14c => vI .i64 (σ 15) fun x15 => vI .i64 (σ 16) fun x16 => law01_NumBack.p6 (law01_NumBack.l0 K k0) K x0A x0n x0c x3A x3n x3c x14A x14n x14c x15 x16 w) ?_ ?_
                  ·
                    exact sh_sound _ _ _ _ (Eq.mp (by kernel_rfl) h)
                  · intro σ w h
                    obtain ⟨x0A, x0n, x0c, e0, h⟩ := vS_elim h
                    obtain ⟨x3A, x3n, x3c, e3, h⟩ := vS_elim h
                    obtain ⟨x14A, x14n, x14c, e14, h⟩ := vS_elim h
                    obtain ⟨x15, e15, h⟩ := vI_elim h
                    obtain ⟨x16, e16, h⟩ := vI_elim h
                    refine J.sub ?_ ((((((Sub.base _).upd e0).upd e3).upd e14).upd e15).upd e16)
                    clear e0 e3 e14 e15 e16
                    refine J_seq (fun σ w => vS (σ 0) fun x0A x0n x0c => vS (σ 3) fun x3A x3n x3c => vS (σ 14) fun x14A x14n x14c => vI .i64 (σ 15) fun x15 => vI .i64 (σ 16) fun x16 => law01_NumBack.p7 (law01_NumBack.l0 K k0) K x0A x0n x0c x3A x3n x3c x14A x14n x14c x15 x16 w) ?_ ?_
                    ·
                      exact sh_sound _ _ _ _ (Eq.mp (by kernel_rfl) h)
                    · intro σ w h
                      obtain ⟨x0A, x0n, x0c, e0, h⟩ := vS_elim h
                      obtain ⟨x3A, x3n, x3c, e3, h⟩ := vS_elim h
                      obtain ⟨x14A, x14n, x14c, e14, h⟩ := vS_elim h
                      obtain ⟨x15, e15, h⟩ := vI_elim h
                      obtain ⟨x16, e16, h⟩ := vI_elim h
                      refine J.sub ?_ ((((((Sub.base _).upd e0).upd e3).upd e14).upd e15).upd e16)
                      clear e0 e3 e14 e15 e16
                      exact sh_sound _ _ _ _ (Eq.mp (by kernel_rfl) h)
          · intro σ w h
            obtain ⟨x0A, x0n, x0c, e0, h⟩ := vS_elim h
            obtain ⟨x3A, x3n, x3c, e3, h⟩ := vS_elim h
            refine J.sub ?_ (((Sub.base _).upd e0).upd e3)
            clear e0 e3
            refine J_seq (fun σ w => vS (σ 0) fun x0A x0n x0c => vP (σ 6) fun x6 => law01_NumBack.p9 K x0A x0n x0c x6 w) ?_ ?_
            ·
              exact sh_sound _ _ _ _ (Eq.mp (by kernel_rfl) h)
            · intro σ w h
              obtain ⟨x0A, x0n, x0c, e0, h⟩ := vS_elim h
              obtain ⟨x6, e6, h⟩ := vP_elim h
              refine J.sub ?_ (((Sub.base _).upd e0).upd e6)
              clear e0 e6
              refine J_seq (fun σ w => vP (σ 6) fun x6 => law01_NumBack.p21 K x6 w) ?_ ?_
              ·
                refine J_seq (fun σ w => vP (σ 6) fun x6 => vS (σ 47) fun x47A x47n x47c => vI .i64 (σ 48) fun x48 => vI .i64 (σ 49) fun x49 => law01_NumBack.p10 K x6 x47A x47n x47c x48 x49 w) ?_ ?_
                ·
                  exact sh_sound _ _ _ _ (Eq.mp (by kernel_rfl) h)
                · intro σ w h
                  obtain ⟨x6, e6, h⟩ := vP_elim h
                  obtain ⟨x47A, x47n, x47c, e47, h⟩ := vS_elim h
                  obtain ⟨x48, e48, h⟩ := vI_elim h
                  obtain ⟨x49, e49, h⟩ := vI_elim h
                  refine J.sub ?_ (((((Sub.base _).upd e6).upd e47).upd e48).upd e49)
                  clear e6 e47 e48 e49
                  refine J_block ?_
                  refine J_loop (fun k σ w => vP (σ 6) fun x6 => vS (σ 47) fun x47A x47n x47c => vI .i64 (σ 48) fun x48 => vI .i64 (σ 49) fun x49 => law01_NumBack.l1 K k x6 x47A x47n x47c x48 x49 w) (Eq.mp (by kernel_rfl) h) ?_ ?_
                  · intro σ w h
                    obtain ⟨x6, e6, h⟩ := vP_elim h
                    obtain ⟨x47A, x47n, x47c, e47, h⟩ := vS_elim h
                    obtain ⟨x48, e48, h⟩ := vI_elim h
                    obtain ⟨x49, e49, h⟩ := vI_elim h
                    exact h
                  · intro k1 σ w h
                    obtain ⟨x6, e6, h⟩ := vP_elim h
                    obtain ⟨x47A, x47n, x47c, e47, h⟩ := vS_elim h
                    obtain ⟨x48, e48, h⟩ := vI_elim h
                    obtain ⟨x49, e49, h⟩ := vI_elim h
                    refine J.sub ?_ (((((Sub.base _).upd e6).upd e47).upd e48).upd e49)
                    clear e6 e47 e48 e49
                    refine J_seq (fun σ w => vP (σ 6) fun x6 => vS (σ 47) fun x47A x47n x47c => vI .i64 (σ 48) fun x48 => vI .i64 (σ 49) fun x49 => vB (σ 50) fun x50 => law01_NumBack.p11 (law01_NumBack.l1 K k1) K x6 x47A x47n x47c x48 x49 x50 w) ?_ ?_
                    ·
                      exact sh_sound _ _ _ _ (Eq.mp (by kernel_rfl) h)
                    · intro σ w h
                      obtain ⟨x6, e6, h⟩ := vP_elim h
                      obtain ⟨x47A, x47n, x47c, e47, h⟩ := vS_elim h
                      obtain ⟨x48, e48, h⟩ := vI_elim h
                      obtain ⟨x49, e49, h⟩ := vI_elim h
                      obtain ⟨x50, e50, h⟩ := vB_elim h
                      refine J.sub ?_ ((((((Sub.base _).upd e6).upd e47).upd e48).upd e49).upd e50)
                      clear e6 e47 e48 e49 e50
                      refine J_seq (fun σ w => vP (σ 6) fun x6 => vS (σ 47) fun x47A x47n x47c => vI .i64 (σ 48) fun x48 => vI .i64 (σ 49) fun x49 => law01_NumBack.p12 (law01_NumBack.l1 K k1) K x6 x47A x47n x47c x48 x49 w) ?_ ?_
                      ·
                        exact sh_sound _ _ _ _ (Eq.mp (by kernel_rfl) h)
                      · intro σ w h
                        obtain ⟨x6, e6, h⟩ := vP_elim h
                        obtain ⟨x47A, x47n, x47c, e47, h⟩ := vS_elim h
                        obtain ⟨x48, e48, h⟩ := vI_elim h
                        obtain ⟨x49, e49, h⟩ := vI_elim h
                        refine J.sub ?_ (((((Sub.base _).upd e6).upd e47).upd e48).upd e49)
                        clear e6 e47 e48 e49
                        refine J_seq (fun σ w => vP (σ 6) fun x6 => vS (σ 47) fun x47A x47n x47c => vI .i64 (σ 48) fun x48 => vI .i64 (σ 49) fun x49 => law01_NumBack.p17 (law01_NumBack.l1 K k1) K x6 x47A x47n x47c x48 x49 w) ?_ ?_
                        ·
                          refine J_block ?_
                          refine J_seq (fun σ w => vP (σ 6) fun x6 => vPa (σ 8) fun x8 => vS (σ 47) fun x47A x47n x47c => vI .i64 (σ 48) fun x48 => vI .i64 (σ 49) fun x49 => law01_NumBack.p13 (law01_NumBack.l1 K k1) K x6 x8 x47A x47n x47c x48 x49 w) ?_ ?_
                          ·
                            exact sh_sound _ _ _ _ (Eq.mp (by kernel_rfl) h)
                          · intro σ w h
                            obtain ⟨x6, e6, h⟩ := vP_elim h
                            obtain ⟨x8, e8, h⟩ := vPa_elim h
                            obtain ⟨x47A, x47n, x47c, e47, h⟩ := vS_elim h
                            obtain ⟨x48, e48, h⟩ := vI_elim h
                            obtain ⟨x49, e49, h⟩ := vI_elim h
                            refine J.sub ?_ ((((((Sub.base _).upd e6).upd e8).upd e47).upd e48).upd e49)
                            clear e6 e8 e47 e48 e49
                            refine J_seq (fun σ w => vP (σ 6) fun x6 => vPa (σ 8) fun x8 => vS (σ 47) fun x47A x47n x47c => vI .i64 (σ 48) fun x48 => vI .i64 (σ 49) fun x49 => vI .i64 (σ 54) fun x54 => law01_NumBack.p14 (law01_NumBack.l1 K k1) K x6 x8 x47A x47n x47c x48 x49 x54 w) ?_ ?_
                            ·
                              exact sh_sound _ _ _ _ (Eq.mp (by kernel_rfl) h)
                            · intro σ w h
                              obtain ⟨x6, e6, h⟩ := vP_elim h
                              obtain ⟨x8, e8, h⟩ := vPa_elim h
                              obtain ⟨x47A, x47n, x47c, e47, h⟩ := vS_elim h
                              obtain ⟨x48, e48, h⟩ := vI_elim h
                              obtain ⟨x49, e49, h⟩ := vI_elim h
                              obtain ⟨x54, e54, h⟩ := vI_elim h
                              refine J.sub ?_ (((((((Sub.base _).upd e6).upd e8).upd e47).upd e48).upd e49).upd e54)
                              clear e6 e8 e47 e48 e49 e54
                              refine J_block ?_
                              refine J_seq (fun σ w => vP (σ 6) fun x6 => vPa (σ 8) fun x8 => vS (σ 47) fun x47A x47n x47c => vI .i64 (σ 48) fun x48 => vI .i64 (σ 49) fun x49 => vI .i64 (σ 54) fun x54 => vB (σ 64) fun x64 => law01_NumBack.p15 (law01_NumBack.l1 K k1) K x6 x8 x47A x47n x47c x48 x49 x54 x64 w) ?_ ?_
                              ·
                                exact sh_sound _ _ _ _ (Eq.mp (by kernel_rfl) h)
                              · intro σ w h
                                obtain ⟨x6, e6, h⟩ := vP_elim h
                                obtain ⟨x8, e8, h⟩ := vPa_elim h
                                obtain ⟨x47A, x47n, x47c, e47, h⟩ := vS_elim h
                                obtain ⟨x48, e48, h⟩ := vI_elim h
                                obtain ⟨x49, e49, h⟩ := vI_elim h
                                obtain ⟨x54, e54, h⟩ := vI_elim h
                                obtain ⟨x64, e64, h⟩ := vB_elim h
                                refine J.sub ?_ ((((((((Sub.base _).upd e6).upd e8).upd e47).upd e48).upd e49).upd e54).upd e64)
                                clear e6 e8 e47 e48 e49 e54 e64
                                refine J_cond' h (by kernel_rfl) (fun h => ?_) (fun h => ?_)
                                ·
                                  refine J_seq (fun σ w => vP (σ 6) fun x6 => vS (σ 47) fun x47A x47n x47c => vI .i64 (σ 48) fun x48 => vI .i64 (σ 49) fun x49 => vB (σ 72) fun x72 => law01_NumBack.p16 (law01_NumBack.l1 K k1) K x6 x47A x47n x47c x48 x49 x72 w) ?_ ?_
                                  ·
                                    exact J_held [] [(0, 0), (1, 0), (4, 0), (2, 1), (5, 1), (3, 2), (6, 0)] (by kernel_rfl) (Eq.mp (by kernel_rfl) h)
                                  · intro σ w h
                                    obtain ⟨x6, e6, h⟩ := vP_elim h
                                    obtain ⟨x47A, x47n, x47c, e47, h⟩ := vS_elim h
                                    obtain ⟨x48, e48, h⟩ := vI_elim h
                                    obtain ⟨x49, e49, h⟩ := vI_elim h
                                    obtain ⟨x72, e72, h⟩ := vB_elim h
                                    refine J.sub ?_ ((((((Sub.base _).upd e6).upd e47).upd e48).upd e49).upd e72)
                                    clear e6 e47 e48 e49 e72
                                    exact sh_sound _ _ _ _ (Eq.mp (by kernel_rfl) h)
                                ·
                                  refine J_seq (fun σ w => vP (σ 6) fun x6 => vPa (σ 8) fun x8 => vS (σ 47) fun x47A x47n x47c => vI .i64 (σ 48) fun x48 => vI .i64 (σ 49) fun x49 => vB (σ 73) fun x73 => law01_NumBack.p18 (law01_NumBack.l1 K k1) K x6 x8 x47A x47n x47c x48 x49 x73 w) ?_ ?_
                                  ·
                                    exact sh_sound _ _ _ _ (Eq.mp (by kernel_rfl) h)
                                  · intro σ w h
                                    obtain ⟨x6, e6, h⟩ := vP_elim h
                                    obtain ⟨x8, e8, h⟩ := vPa_elim h
                                    obtain ⟨x47A, x47n, x47c, e47, h⟩ := vS_elim h
                                    obtain ⟨x48, e48, h⟩ := vI_elim h
                                    obtain ⟨x49, e49, h⟩ := vI_elim h
                                    obtain ⟨x73, e73, h⟩ := vB_elim h
                                    refine J.sub ?_ (((((((Sub.base _).upd e6).upd e8).upd e47).upd e48).upd e49).upd e73)
                                    clear e6 e8 e47 e48 e49 e73
                                    refine J_cond' h (by kernel_rfl) (fun h => ?_) (fun h => ?_)
                                    ·
                                      refine J_seq (fun σ w => vP (σ 6) fun x6 => vS (σ 47) fun x47A x47n x47c => vI .i64 (σ 48) fun x48 => vI .i64 (σ 49) fun x49 => vB (σ 79) fun x79 => law01_NumBack.p19 (law01_NumBack.l1 K k1) K x6 x47A x47n x47c x48 x49 x79 w) ?_ ?_
                                      ·
                                        exact J_held [] [(0, 0), (2, 0), (3, 1), (1, 2), (4, 0)] (by kernel_rfl) (Eq.mp (by kernel_rfl) h)
                                      · intro σ w h
                                        obtain ⟨x6, e6, h⟩ := vP_elim h
                                        obtain ⟨x47A, x47n, x47c, e47, h⟩ := vS_elim h
                                        obtain ⟨x48, e48, h⟩ := vI_elim h
                                        obtain ⟨x49, e49, h⟩ := vI_elim h
                                        obtain ⟨x79, e79, h⟩ := vB_elim h
                                        refine J.sub ?_ ((((((Sub.base _).upd e6).upd e47).upd e48).upd e49).upd e79)
                                        clear e6 e47 e48 e49 e79
                                        exact sh_sound _ _ _ _ (Eq.mp (by kernel_rfl) h)
                                    ·
                                      refine J_seq (fun σ w => vP (σ 6) fun x6 => vS (σ 47) fun x47A x47n x47c => vI .i64 (σ 48) fun x48 => vI .i64 (σ 49) fun x49 => vB (σ 63) fun x63 => law01_NumBack.p20 (law01_NumBack.l1 K k1) K x6 x47A x47n x47c x48 x49 x63 w) ?_ ?_
                                      ·
                                        exact J_held [] [(0, 0), (1, 0), (5, 0), (2, 1), (3, 0), (6, 1), (4, 2), (7, 2), (8, 0)] (by kernel_rfl) (Eq.mp (by kernel_rfl) h)
                                      · intro σ w h
                                        obtain ⟨x6, e6, h⟩ := vP_elim h
                                        obtain ⟨x47A, x47n, x47c, e47, h⟩ := vS_elim h
                                        obtain ⟨x48, e48, h⟩ := vI_elim h
                                        obtain ⟨x49, e49, h⟩ := vI_elim h
                                        obtain ⟨x63, e63, h⟩ := vB_elim h
                                        refine J.sub ?_ ((((((Sub.base _).upd e6).upd e47).upd e48).upd e49).upd e63)
                                        clear e6 e47 e48 e49 e63
                                        exact sh_sound _ _ _ _ (Eq.mp (by kernel_rfl) h)
                        · intro σ w h
                          obtain ⟨x6, e6, h⟩ := vP_elim h
                          obtain ⟨x47A, x47n, x47c, e47, h⟩ := vS_elim h
                          obtain ⟨x48, e48, h⟩ := vI_elim h
                          obtain ⟨x49, e49, h⟩ := vI_elim h
                          refine J.sub ?_ (((((Sub.base _).upd e6).upd e47).upd e48).upd e49)
                          clear e6 e47 e48 e49
                          exact sh_sound _ _ _ _ (Eq.mp (by kernel_rfl) h)
              · intro σ w h
                obtain ⟨x6, e6, h⟩ := vP_elim h
                refine J.sub ?_ ((Sub.base _).upd e6)
                clear e6
                refine J_seq (fun σ w => vB (σ 2) fun x2 => law01_NumBack.p22 K x2 w) ?_ ?_
                ·
                  exact sh_sound _ _ _ _ (Eq.mp (by kernel_rfl) h)
                · intro σ w h
                  obtain ⟨x2, e2, h⟩ := vB_elim h
                  refine J.sub ?_ ((Sub.base _).upd e2)
                  clear e2
                  exact sh_sound _ _ _ _ (Eq.mp (by kernel_rfl) h)

/-! ### hayloft/hayloftlaw01.NumReads: function 8 -/
abbrev law01_NumReads.p14 (L0 : Option Addr → Nat → Nat → Option Addr → Nat → Nat → Option Addr → Nat → Nat → Option Addr → Addr → Int → World → Prop) (K : Value → World → Prop) (x0A : Option Addr) (x0n : Nat) (x0c : Nat) (x1A : Option Addr) (x1n : Nat) (x1c : Nat) (x5A : Option Addr) (x5n : Nat) (x5c : Nat) (x6 : Option Addr) (x7 : Addr) (x8 : Int) (w : World) : Prop :=
  L0 x0A x0n x0c x1A x1n x1c x5A x5n x5c x6 x7 (IntKind.wrap .i64 (x8 + (1 : Int))) w
abbrev law01_NumReads.p13 (L0 : Option Addr → Nat → Nat → Option Addr → Nat → Nat → Option Addr → Nat → Nat → Option Addr → Addr → Int → World → Prop) (K : Value → World → Prop) (x0A : Option Addr) (x0n : Nat) (x0c : Nat) (x1A : Option Addr) (x1n : Nat) (x1c : Nat) (x5A : Option Addr) (x5n : Nat) (x5c : Nat) (x6 : Option Addr) (x7 : Addr) (x8 : Int) (x124 : Bool) (w : World) : Prop :=
  condP x124 (K (.bool false) w) (law01_NumReads.p14 L0 K x0A x0n x0c x1A x1n x1c x5A x5n x5c x6 x7 x8 w)
abbrev law01_NumReads.p12 (L0 : Option Addr → Nat → Nat → Option Addr → Nat → Nat → Option Addr → Nat → Nat → Option Addr → Addr → Int → World → Prop) (K : Value → World → Prop) (x0A : Option Addr) (x0n : Nat) (x0c : Nat) (x1A : Option Addr) (x1n : Nat) (x1c : Nat) (x5A : Option Addr) (x5n : Nat) (x5c : Nat) (x6 : Option Addr) (x7 : Addr) (x8 : Int) (w : World) : Prop :=
  ∃ (S36 : Array Obj → Prop), S36 w.heap ∧ CallsE Try.prog 22 #[.pointer x6] w (fun v37 w38 => ∃ (n39 : Int), v37 = .int .i64 n39 ∧ S36 w38.heap ∧ CallsE Try.prog 34 #[.pointer (some x7)] w38 (fun v40 w41 => ∃ (n42 : Int), v40 = .int .i64 n42 ∧ S36 w41.heap ∧ condP (n39 != n42) (law01_NumReads.p13 L0 K x0A x0n x0c x1A x1n x1c x5A x5n x5c x6 x7 x8 true w41) (∃ (a43 : Addr), some x7 = some a43 ∧ ∃ (n44 : Int), (∀ w' : World, S36 w'.heap → w'.cell? (a43.add 1) = some (.int .i64 n44)) ∧ CallsE Try.prog 21 #[.pointer x6] w41 (fun v45 w46 => ∃ (n47 : Int), v45 = .int .i64 n47 ∧ S36 w46.heap ∧ condP (n47 != n44) (law01_NumReads.p13 L0 K x0A x0n x0c x1A x1n x1c x5A x5n x5c x6 x7 x8 true w46) (CallsE Try.prog 26 #[.pointer x6] w46 (fun v48 w49 => ∃ (n50 : Int), v48 = .int .i64 n50 ∧ S36 w49.heap ∧ CallsE Try.prog 35 #[.pointer (some x7)] w49 (fun v51 w52 => ∃ (n53 : Int), v51 = .int .i64 n53 ∧ S36 w52.heap ∧ law01_NumReads.p13 L0 K x0A x0n x0c x1A x1n x1c x5A x5n x5c x6 x7 x8 (n50 != n53) w52)))))))
abbrev law01_NumReads.p11 (L0 : Option Addr → Nat → Nat → Option Addr → Nat → Nat → Option Addr → Nat → Nat → Option Addr → Addr → Int → World → Prop) (K : Value → World → Prop) (x0A : Option Addr) (x0n : Nat) (x0c : Nat) (x1A : Option Addr) (x1n : Nat) (x1c : Nat) (x5A : Option Addr) (x5n : Nat) (x5c : Nat) (x6 : Option Addr) (x7 : Addr) (x8 : Int) (x48 : Bool) (w : World) : Prop :=
  condP x48 (K (.bool false) w) (law01_NumReads.p12 L0 K x0A x0n x0c x1A x1n x1c x5A x5n x5c x6 x7 x8 w)
abbrev law01_NumReads.p17 (L0 : Option Addr → Nat → Nat → Option Addr → Nat → Nat → Option Addr → Nat → Nat → Option Addr → Addr → Int → World → Prop) (K : Value → World → Prop) (x0A : Option Addr) (x0n : Nat) (x0c : Nat) (x1A : Option Addr) (x1n : Nat) (x1c : Nat) (x5A : Option Addr) (x5n : Nat) (x5c : Nat) (x6 : Option Addr) (x7 : Addr) (x8 : Int) (x66 : Bool) (w : World) : Prop :=
  condP x66 (K (.bool false) w) (law01_NumReads.p12 L0 K x0A x0n x0c x1A x1n x1c x5A x5n x5c x6 x7 x8 w)
abbrev law01_NumReads.b1 (L1 : Option Addr → Nat → Nat → Option Addr → Nat → Nat → Option Addr → Nat → Nat → Option Addr → Addr → Int → Option Addr → Nat → Nat → Int → Int → World → Prop) (L0 : Option Addr → Nat → Nat → Option Addr → Nat → Nat → Option Addr → Nat → Nat → Option Addr → Addr → Int → World → Prop) (K : Value → World → Prop) (x0A : Option Addr) (x0n : Nat) (x0c : Nat) (x1A : Option Addr) (x1n : Nat) (x1c : Nat) (x5A : Option Addr) (x5n : Nat) (x5c : Nat) (x6 : Option Addr) (x7 : Addr) (x8 : Int) (x10A : Option Addr) (x10n : Nat) (x10c : Nat) (x81 : Int) (x82 : Int) (w : World) : Prop :=
  condP (decide (x82 < x81)) ((0 ≤ x82 ∧ x82 < ((x10n : Nat) : Int)) ∧ ∃ (a84 : Addr), x10A = some a84 ∧ ∃ (n85 : Int), w.cell? (a84.add x82.toNat) = some (.int .u8 n85) ∧ (0 ≤ x82 ∧ x82 < ((x10n : Nat) : Int)) ∧ ∃ (a86 : Addr), x10A = some a86 ∧ canStore w (a86.add x82.toNat) ∧ wlet (w.setCell (a86.add x82.toNat) (.int .u8 (IntKind.wrap .u8 (n85 + (1 : Int))))) fun w87 => L1 x0A x0n x0c x1A x1n x1c x5A x5n x5c x6 x7 x8 x10A x10n x10c x81 (IntKind.wrap .i64 (x82 + (1 : Int))) w87) (law01_NumReads.p12 L0 K x0A x0n x0c x1A x1n x1c x5A x5n x5c x6 x7 x8 w)
def law01_NumReads.l1 (L0 : Option Addr → Nat → Nat → Option Addr → Nat → Nat → Option Addr → Nat → Nat → Option Addr → Addr → Int → World → Prop) (K : Value → World → Prop) (k : Nat) : Option Addr → Nat → Nat → Option Addr → Nat → Nat → Option Addr → Nat → Nat → Option Addr → Addr → Int → Option Addr → Nat → Nat → Int → Int → World → Prop :=
  Nat.rec (motive := fun _ => Option Addr → Nat → Nat → Option Addr → Nat → Nat → Option Addr → Nat → Nat → Option Addr → Addr → Int → Option Addr → Nat → Nat → Int → Int → World → Prop) (fun _ _ _ _ _ _ _ _ _ _ _ _ _ _ _ _ _ _ => False) (fun _ ih => law01_NumReads.b1 ih L0 K) k
theorem law01_NumReads.l1_succ (L0 : Option Addr → Nat → Nat → Option Addr → Nat → Nat → Option Addr → Nat → Nat → Option Addr → Addr → Int → World → Prop) (K : Value → World → Prop) (k : Nat) (x0A : Option Addr) (x0n : Nat) (x0c : Nat) (x1A : Option Addr) (x1n : Nat) (x1c : Nat) (x5A : Option Addr) (x5n : Nat) (x5c : Nat) (x6 : Option Addr) (x7 : Addr) (x8 : Int) (x10A : Option Addr) (x10n : Nat) (x10c : Nat) (x81 : Int) (x82 : Int) (w : World) : law01_NumReads.l1 L0 K (k + 1) x0A x0n x0c x1A x1n x1c x5A x5n x5c x6 x7 x8 x10A x10n x10c x81 x82 w = law01_NumReads.b1 (law01_NumReads.l1 L0 K k) L0 K x0A x0n x0c x1A x1n x1c x5A x5n x5c x6 x7 x8 x10A x10n x10c x81 x82 w := rfl
abbrev law01_NumReads.p21 (L0 : Option Addr → Nat → Nat → Option Addr → Nat → Nat → Option Addr → Nat → Nat → Option Addr → Addr → Int → World → Prop) (K : Value → World → Prop) (x0A : Option Addr) (x0n : Nat) (x0c : Nat) (x1A : Option Addr) (x1n : Nat) (x1c : Nat) (x5A : Option Addr) (x5n : Nat) (x5c : Nat) (x6 : Option Addr) (x7 : Addr) (x8 : Int) (x10A : Option Addr) (x10n : Nat) (x10c : Nat) (x81 : Int) (x82 : Int) (w : World) : Prop :=
  ∃ k, law01_NumReads.l1 L0 K k x0A x0n x0c x1A x1n x1c x5A x5n x5c x6 x7 x8 x10A x10n x10c x81 x82 w
abbrev law01_NumReads.p20 (L0 : Option Addr → Nat → Nat → Option Addr → Nat → Nat → Option Addr → Nat → Nat → Option Addr → Addr → Int → World → Prop) (K : Value → World → Prop) (x0A : Option Addr) (x0n : Nat) (x0c : Nat) (x1A : Option Addr) (x1n : Nat) (x1c : Nat) (x5A : Option Addr) (x5n : Nat) (x5c : Nat) (x6 : Option Addr) (x7 : Addr) (x8 : Int) (x10A : Option Addr) (x10n : Nat) (x10c : Nat) (w : World) : Prop :=
  law01_NumReads.p21 L0 K x0A x0n x0c x1A x1n x1c x5A x5n x5c x6 x7 x8 x10A x10n x10c ((x10n : Nat) : Int) 0 w
abbrev law01_NumReads.p19 (L0 : Option Addr → Nat → Nat → Option Addr → Nat → Nat → Option Addr → Nat → Nat → Option Addr → Addr → Int → World → Prop) (K : Value → World → Prop) (x0A : Option Addr) (x0n : Nat) (x0c : Nat) (x1A : Option Addr) (x1n : Nat) (x1c : Nat) (x5A : Option Addr) (x5n : Nat) (x5c : Nat) (x6 : Option Addr) (x7 : Addr) (x8 : Int) (x9 : Addr) (x10A : Option Addr) (x10n : Nat) (x10c : Nat) (w : World) : Prop :=
  ∃ (n75 : Int), w.cell? (x9.add 1) = some (.int .i64 n75) ∧ CallsE Try.prog 31 #[.pointer (some x7), .int .i64 n75] w (fun v76 w77 => ∃ (A78 : Option Addr) (m79 : Nat) (c80 : Nat), v76 = .slice A78 m79 c80 ∧ CallsE Try.prog 11 #[.slice x10A x10n x10c, .slice A78 m79 c80] w77 (fun v81 w82 => ∃ (b83 : Bool), v81 = .bool b83 ∧ condP (!b83) (K (.bool false) w82) (law01_NumReads.p20 L0 K x0A x0n x0c x1A x1n x1c x5A x5n x5c x6 x7 x8 x10A x10n x10c w82)))
abbrev law01_NumReads.p18 (L0 : Option Addr → Nat → Nat → Option Addr → Nat → Nat → Option Addr → Nat → Nat → Option Addr → Addr → Int → World → Prop) (K : Value → World → Prop) (x0A : Option Addr) (x0n : Nat) (x0c : Nat) (x1A : Option Addr) (x1n : Nat) (x1c : Nat) (x5A : Option Addr) (x5n : Nat) (x5c : Nat) (x6 : Option Addr) (x7 : Addr) (x8 : Int) (x9 : Addr) (x37 : Int) (x67 : Bool) (w : World) : Prop :=
  condP x67 (∃ (n69 : Int), w.cell? (x9.add 1) = some (.int .i64 n69) ∧ CallsE Try.prog 25 #[.pointer x6, .int .i64 n69] w (fun v70 w71 => ∃ (A72 : Option Addr) (m73 : Nat) (c74 : Nat), v70 = .slice A72 m73 c74 ∧ law01_NumReads.p19 L0 K x0A x0n x0c x1A x1n x1c x5A x5n x5c x6 x7 x8 x9 A72 m73 c74 w71)) (condP (x37 == (5 : Int)) (∃ (n88 : Int), w.cell? (x9.add 1) = some (.int .i64 n88) ∧ CallsE Try.prog 32 #[.pointer x6, .int .i64 n88] w (fun v89 w90 => v89 = .tuple #[] ∧ ∃ (n91 : Int), w90.cell? (x9.add 1) = some (.int .i64 n91) ∧ CallsE Try.prog 33 #[.pointer (some x7), .int .i64 n91] w90 (fun v92 w93 => v92 = .tuple #[] ∧ law01_NumReads.p12 L0 K x0A x0n x0c x1A x1n x1c x5A x5n x5c x6 x7 x8 w93))) (law01_NumReads.p12 L0 K x0A x0n x0c x1A x1n x1c x5A x5n x5c x6 x7 x8 w))
abbrev law01_NumReads.p16 (L0 : Option Addr → Nat → Nat → Option Addr → Nat → Nat → Option Addr → Nat → Nat → Option Addr → Addr → Int → World → Prop) (K : Value → World → Prop) (x0A : Option Addr) (x0n : Nat) (x0c : Nat) (x1A : Option Addr) (x1n : Nat) (x1c : Nat) (x5A : Option Addr) (x5n : Nat) (x5c : Nat) (x6 : Option Addr) (x7 : Addr) (x8 : Int) (x9 : Addr) (x37 : Int) (x56 : Bool) (w : World) : Prop :=
  condP x56 (∃ (S60 : Array Obj → Prop), S60 w.heap ∧ ∃ (n61 : Int), (∀ w' : World, S60 w'.heap → w'.cell? (x9.add 2) = some (.int .u64 n61)) ∧ ∃ (n62 : Int), (∀ w' : World, S60 w'.heap → w'.cell? (x9.add 2) = some (.int .u64 n62)) ∧ CallsE Try.prog 23 #[.pointer x6, .int .u64 n61] w (fun v63 w64 => ∃ (n65 : Int), v63 = .int .u64 n65 ∧ S60 w64.heap ∧ CallsE Try.prog 30 #[.pointer (some x7), .int .u64 n62] w64 (fun v66 w67 => ∃ (n68 : Int), v66 = .int .u64 n68 ∧ S60 w67.heap ∧ law01_NumReads.p17 L0 K x0A x0n x0c x1A x1n x1c x5A x5n x5c x6 x7 x8 (n65 != n68) w67))) (law01_NumReads.p18 L0 K x0A x0n x0c x1A x1n x1c x5A x5n x5c x6 x7 x8 x9 x37 (x37 == (4 : Int)) w)
abbrev law01_NumReads.p15 (L0 : Option Addr → Nat → Nat → Option Addr → Nat → Nat → Option Addr → Nat → Nat → Option Addr → Addr → Int → World → Prop) (K : Value → World → Prop) (x0A : Option Addr) (x0n : Nat) (x0c : Nat) (x1A : Option Addr) (x1n : Nat) (x1c : Nat) (x5A : Option Addr) (x5n : Nat) (x5c : Nat) (x6 : Option Addr) (x7 : Addr) (x8 : Int) (x9 : Addr) (x37 : Int) (x49 : Bool) (w : World) : Prop :=
  condP x49 (CallsE Try.prog 20 #[.pointer x6] w (fun v54 w55 => ∃ (n56 : Int), v54 = .int .u64 n56 ∧ CallsE Try.prog 29 #[.pointer (some x7)] w55 (fun v57 w58 => ∃ (n59 : Int), v57 = .int .u64 n59 ∧ condP (n56 != n59) (K (.bool false) w58) (law01_NumReads.p12 L0 K x0A x0n x0c x1A x1n x1c x5A x5n x5c x6 x7 x8 w58)))) (law01_NumReads.p16 L0 K x0A x0n x0c x1A x1n x1c x5A x5n x5c x6 x7 x8 x9 x37 (x37 == (3 : Int)) w)
abbrev law01_NumReads.p10 (L0 : Option Addr → Nat → Nat → Option Addr → Nat → Nat → Option Addr → Nat → Nat → Option Addr → Addr → Int → World → Prop) (K : Value → World → Prop) (x0A : Option Addr) (x0n : Nat) (x0c : Nat) (x1A : Option Addr) (x1n : Nat) (x1c : Nat) (x5A : Option Addr) (x5n : Nat) (x5c : Nat) (x6 : Option Addr) (x7 : Addr) (x8 : Int) (x9 : Addr) (x37 : Int) (x38 : Bool) (w : World) : Prop :=
  condP x38 (∃ (S27 : Array Obj → Prop), S27 w.heap ∧ ∃ (n28 : Int), (∀ w' : World, S27 w'.heap → w'.cell? (x9.add 1) = some (.int .i64 n28)) ∧ ∃ (n29 : Int), (∀ w' : World, S27 w'.heap → w'.cell? (x9.add 1) = some (.int .i64 n29)) ∧ CallsE Try.prog 24 #[.pointer x6, .int .i64 n28] w (fun v30 w31 => ∃ (n32 : Int), v30 = .int .u64 n32 ∧ S27 w31.heap ∧ CallsE Try.prog 28 #[.pointer (some x7), .int .i64 n29] w31 (fun v33 w34 => ∃ (n35 : Int), v33 = .int .u64 n35 ∧ S27 w34.heap ∧ law01_NumReads.p11 L0 K x0A x0n x0c x1A x1n x1c x5A x5n x5c x6 x7 x8 (n32 != n35) w34))) (law01_NumReads.p15 L0 K x0A x0n x0c x1A x1n x1c x5A x5n x5c x6 x7 x8 x9 x37 (x37 == (2 : Int)) w)
abbrev law01_NumReads.p9 (L0 : Option Addr → Nat → Nat → Option Addr → Nat → Nat → Option Addr → Nat → Nat → Option Addr → Addr → Int → World → Prop) (K : Value → World → Prop) (x0A : Option Addr) (x0n : Nat) (x0c : Nat) (x1A : Option Addr) (x1n : Nat) (x1c : Nat) (x5A : Option Addr) (x5n : Nat) (x5c : Nat) (x6 : Option Addr) (x7 : Addr) (x8 : Int) (x9 : Addr) (x37 : Int) (w : World) : Prop :=
  law01_NumReads.p10 L0 K x0A x0n x0c x1A x1n x1c x5A x5n x5c x6 x7 x8 x9 x37 (x37 == (1 : Int)) w
abbrev law01_NumReads.p8 (L0 : Option Addr → Nat → Nat → Option Addr → Nat → Nat → Option Addr → Nat → Nat → Option Addr → Addr → Int → World → Prop) (K : Value → World → Prop) (x0A : Option Addr) (x0n : Nat) (x0c : Nat) (x1A : Option Addr) (x1n : Nat) (x1c : Nat) (x5A : Option Addr) (x5n : Nat) (x5c : Nat) (x6 : Option Addr) (x7 : Addr) (x8 : Int) (x9 : Addr) (w : World) : Prop :=
  ∃ (n26 : Int), w.cell? x9 = some (.int .i64 n26) ∧ law01_NumReads.p9 L0 K x0A x0n x0c x1A x1n x1c x5A x5n x5c x6 x7 x8 x9 n26 w
abbrev law01_NumReads.p7 (L0 : Option Addr → Nat → Nat → Option Addr → Nat → Nat → Option Addr → Nat → Nat → Option Addr → Addr → Int → World → Prop) (K : Value → World → Prop) (x0A : Option Addr) (x0n : Nat) (x0c : Nat) (x1A : Option Addr) (x1n : Nat) (x1c : Nat) (x5A : Option Addr) (x5n : Nat) (x5c : Nat) (x6 : Option Addr) (x7 : Addr) (x8 : Int) (w : World) : Prop :=
  (0 ≤ x8 ∧ x8 < ((x1n : Nat) : Int)) ∧ ∃ (a18 : Addr), x1A = some a18 ∧ ∃ (n19 : Int), w.cell? (a18.add (x8.toNat * 3)) = some (.int .i64 n19) ∧ ∃ (n20 : Int), w.cell? ((a18.add (x8.toNat * 3)).add 1) = some (.int .i64 n20) ∧ ∃ (n21 : Int), w.cell? ((a18.add (x8.toNat * 3)).add 2) = some (.int .u64 n21) ∧ wlet (w.alloc (.cells #[.int .i64 0, .int .i64 0, .int .u64 0] 53)) fun w22 => canStore w22 (⟨w.heap.size, 0, none⟩) ∧ wlet (w22.setCell (⟨w.heap.size, 0, none⟩) (.int .i64 n19)) fun w23 => canStore w23 (⟨w.heap.size, 1, none⟩) ∧ wlet (w23.setCell (⟨w.heap.size, 1, none⟩) (.int .i64 n20)) fun w24 => canStore w24 (⟨w.heap.size, 2, none⟩) ∧ wlet (w24.setCell (⟨w.heap.size, 2, none⟩) (.int .u64 n21)) fun w25 => law01_NumReads.p8 L0 K x0A x0n x0c x1A x1n x1c x5A x5n x5c x6 x7 x8 (⟨w.heap.size, 0, none⟩) w25
abbrev law01_NumReads.p22 (K : Value → World → Prop) (x0A : Option Addr) (x0n : Nat) (x0c : Nat) (x5A : Option Addr) (x5n : Nat) (x5c : Nat) (w : World) : Prop :=
  CallsE Try.prog 11 #[.slice x5A x5n x5c, .slice x0A x0n x0c] w (fun v94 w95 => ∃ (b96 : Bool), v94 = .bool b96 ∧ K (.bool b96) w95)
abbrev law01_NumReads.p6 (L0 : Option Addr → Nat → Nat → Option Addr → Nat → Nat → Option Addr → Nat → Nat → Option Addr → Addr → Int → World → Prop) (K : Value → World → Prop) (x0A : Option Addr) (x0n : Nat) (x0c : Nat) (x1A : Option Addr) (x1n : Nat) (x1c : Nat) (x5A : Option Addr) (x5n : Nat) (x5c : Nat) (x6 : Option Addr) (x7 : Addr) (x8 : Int) (x29 : Bool) (w : World) : Prop :=
  condP x29 (law01_NumReads.p7 L0 K x0A x0n x0c x1A x1n x1c x5A x5n x5c x6 x7 x8 w) (law01_NumReads.p22 K x0A x0n x0c x5A x5n x5c w)
abbrev law01_NumReads.b0 (L0 : Option Addr → Nat → Nat → Option Addr → Nat → Nat → Option Addr → Nat → Nat → Option Addr → Addr → Int → World → Prop) (K : Value → World → Prop) (x0A : Option Addr) (x0n : Nat) (x0c : Nat) (x1A : Option Addr) (x1n : Nat) (x1c : Nat) (x5A : Option Addr) (x5n : Nat) (x5c : Nat) (x6 : Option Addr) (x7 : Addr) (x8 : Int) (w : World) : Prop :=
  condP (decide (x8 < ((x1n : Nat) : Int))) (law01_NumReads.p6 L0 K x0A x0n x0c x1A x1n x1c x5A x5n x5c x6 x7 x8 (decide (x8 < (200 : Int))) w) (law01_NumReads.p6 L0 K x0A x0n x0c x1A x1n x1c x5A x5n x5c x6 x7 x8 false w)
def law01_NumReads.l0 (K : Value → World → Prop) (k : Nat) : Option Addr → Nat → Nat → Option Addr → Nat → Nat → Option Addr → Nat → Nat → Option Addr → Addr → Int → World → Prop :=
  Nat.rec (motive := fun _ => Option Addr → Nat → Nat → Option Addr → Nat → Nat → Option Addr → Nat → Nat → Option Addr → Addr → Int → World → Prop) (fun _ _ _ _ _ _ _ _ _ _ _ _ _ => False) (fun _ ih => law01_NumReads.b0 ih K) k
theorem law01_NumReads.l0_succ (K : Value → World → Prop) (k : Nat) (x0A : Option Addr) (x0n : Nat) (x0c : Nat) (x1A : Option Addr) (x1n : Nat) (x1c : Nat) (x5A : Option Addr) (x5n : Nat) (x5c : Nat) (x6 : Option Addr) (x7 : Addr) (x8 : Int) (w : World) : law01_NumReads.l0 K (k + 1) x0A x0n x0c x1A x1n x1c x5A x5n x5c x6 x7 x8 w = law01_NumReads.b0 (law01_NumReads.l0 K k) K x0A x0n x0c x1A x1n x1c x5A x5n x5c x6 x7 x8 w := rfl
abbrev law01_NumReads.p5 (K : Value → World → Prop) (x0A : Option Addr) (x0n : Nat) (x0c : Nat) (x1A : Option Addr) (x1n : Nat) (x1c : Nat) (x5A : Option Addr) (x5n : Nat) (x5c : Nat) (x6 : Option Addr) (x7 : Addr) (x8 : Int) (w : World) : Prop :=
  ∃ k, law01_NumReads.l0 K k x0A x0n x0c x1A x1n x1c x5A x5n x5c x6 x7 x8 w
abbrev law01_NumReads.p4 (K : Value → World → Prop) (x0A : Option Addr) (x0n : Nat) (x0c : Nat) (x1A : Option Addr) (x1n : Nat) (x1c : Nat) (x5A : Option Addr) (x5n : Nat) (x5c : Nat) (x6 : Option Addr) (x7 : Addr) (w : World) : Prop :=
  law01_NumReads.p5 K x0A x0n x0c x1A x1n x1c x5A x5n x5c x6 x7 0 w
abbrev law01_NumReads.p3 (K : Value → World → Prop) (x0A : Option Addr) (x0n : Nat) (x0c : Nat) (x1A : Option Addr) (x1n : Nat) (x1c : Nat) (x5A : Option Addr) (x5n : Nat) (x5c : Nat) (x6 : Option Addr) (w : World) : Prop :=
  CallsE Try.prog 27 #[.slice x0A x0n x0c] w (fun v12 w13 => ∃ (A14 : Option Addr) (m15 : Nat) (c16 : Nat), v12 = .slice A14 m15 c16 ∧ wlet (w13.alloc (.cells #[.slice A14 m15 c16, .int .i64 0] 51)) fun w17 => law01_NumReads.p4 K x0A x0n x0c x1A x1n x1c x5A x5n x5c x6 (⟨w13.heap.size, 0, none⟩) w17)
abbrev law01_NumReads.p2 (K : Value → World → Prop) (x0A : Option Addr) (x0n : Nat) (x0c : Nat) (x1A : Option Addr) (x1n : Nat) (x1c : Nat) (x5A : Option Addr) (x5n : Nat) (x5c : Nat) (w : World) : Prop :=
  CallsE Try.prog 19 #[.slice x5A x5n x5c] w (fun v9 w10 => ∃ (p11 : Option Addr), v9 = .pointer p11 ∧ law01_NumReads.p3 K x0A x0n x0c x1A x1n x1c x5A x5n x5c p11 w10)
abbrev law01_NumReads.p1 (K : Value → World → Prop) (x0A : Option Addr) (x0n : Nat) (x0c : Nat) (x1A : Option Addr) (x1n : Nat) (x1c : Nat) (w : World) : Prop :=
  CallsE Try.prog 27 #[.slice x0A x0n x0c] w (fun v4 w5 => ∃ (A6 : Option Addr) (m7 : Nat) (c8 : Nat), v4 = .slice A6 m7 c8 ∧ law01_NumReads.p2 K x0A x0n x0c x1A x1n x1c A6 m7 c8 w5)
abbrev law01_NumReads.p0 (K : Value → World → Prop) (x0A : Option Addr) (x0n : Nat) (x0c : Nat) (x1A : Option Addr) (x1n : Nat) (x1c : Nat) (w : World) : Prop :=
  CallsE Try.prog 10 #[] w (fun v1 w2 => ∃ (b3 : Bool), v1 = .bool b3 ∧ condP (!b3) (K (.bool false) w2) (law01_NumReads.p1 K x0A x0n x0c x1A x1n x1c w2))
abbrev law01_NumReads.F (q0A : Option Addr) (q0n : Nat) (q0c : Nat) (q1A : Option Addr) (q1n : Nat) (q1c : Nat) (K : Value → World → Prop) (w : World) : Prop :=
  law01_NumReads.p0 K q0A q0n q0c q1A q1n q1c w
theorem law01_NumReads.ok {q0A : Option Addr} {q0n : Nat} {q0c : Nat} {q1A : Option Addr} {q1n : Nat} {q1c : Nat} {K : Value → World → Prop} {w : World} (h : law01_NumReads.F q0A q0n q0c q1A q1n q1c K w) :
    CallsE Try.prog 8 #[.slice q0A q0n q0c, .slice q1A q1n q1c] w K := by
  refine calls_of_J (n := 128) (rs := [.tmp 4]) Try.func8 rfl rfl rfl rfl ?_
  refine J_seq (fun σ w => vS (σ 0) fun x0A x0n x0c => vS (σ 1) fun x1A x1n x1c => law01_NumReads.p0 K x0A x0n x0c x1A x1n x1c w) ?_ ?_
  ·
    exact sh_sound _ _ _ _ (Eq.mp (by kernel_rfl) h)
  · intro σ w h
    obtain ⟨x0A, x0n, x0c, e0, h⟩ := vS_elim h
    obtain ⟨x1A, x1n, x1c, e1, h⟩ := vS_elim h
    refine J.sub ?_ (((Sub.base _).upd e0).upd e1)
    clear e0 e1
    refine J_seq (fun σ w => vS (σ 0) fun x0A x0n x0c => vS (σ 1) fun x1A x1n x1c => law01_NumReads.p1 K x0A x0n x0c x1A x1n x1c w) ?_ ?_
    ·
      exact sh_sound _ _ _ _ (Eq.mp (by kernel_rfl) h)
    · intro σ w h
      obtain ⟨x0A, x0n, x0c, e0, h⟩ := vS_elim h
      obtain ⟨x1A, x1n, x1c, e1, h⟩ := vS_elim h
      refine J.sub ?_ (((Sub.base _).upd e0).upd e1)
      clear e0 e1
      refine J_seq (fun σ w => vS (σ 0) fun x0A x0n x0c => vS (σ 1) fun x1A x1n x1c => vS (σ 5) fun x5A x5n x5c => law01_NumReads.p2 K x0A x0n x0c x1A x1n x1c x5A x5n x5c w) ?_ ?_
      ·
        exact sh_sound _ _ _ _ (Eq.mp (by kernel_rfl) h)
      · intro σ w h
        obtain ⟨x0A, x0n, x0c, e0, h⟩ := vS_elim h
        obtain ⟨x1A, x1n, x1c, e1, h⟩ := vS_elim h
        obtain ⟨x5A, x5n, x5c, e5, h⟩ := vS_elim h
        refine J.sub ?_ ((((Sub.base _).upd e0).upd e1).upd e5)
        clear e0 e1 e5
        refine J_seq (fun σ w => vS (σ 0) fun x0A x0n x0c => vS (σ 1) fun x1A x1n x1c => vS (σ 5) fun x5A x5n x5c => vP (σ 6) fun x6 => law01_NumReads.p3 K x0A x0n x0c x1A x1n x1c x5A x5n x5c x6 w) ?_ ?_
        ·
          exact sh_sound _ _ _ _ (Eq.mp (by kernel_rfl) h)
        · intro σ w h
          obtain ⟨x0A, x0n, x0c, e0, h⟩ := vS_elim h
          obtain ⟨x1A, x1n, x1c, e1, h⟩ := vS_elim h
          obtain ⟨x5A, x5n, x5c, e5, h⟩ := vS_elim h
          obtain ⟨x6, e6, h⟩ := vP_elim h
          refine J.sub ?_ (((((Sub.base _).upd e0).upd e1).upd e5).upd e6)
          clear e0 e1 e5 e6
          refine J_seq (fun σ w => vS (σ 0) fun x0A x0n x0c => vS (σ 1) fun x1A x1n x1c => vS (σ 5) fun x5A x5n x5c => vP (σ 6) fun x6 => vPa (σ 7) fun x7 => law01_NumReads.p4 K x0A x0n x0c x1A x1n x1c x5A x5n x5c x6 x7 w) ?_ ?_
          ·
            exact sh_sound _ _ _ _ (Eq.mp (by kernel_rfl) h)
          · intro σ w h
            obtain ⟨x0A, x0n, x0c, e0, h⟩ := vS_elim h
            obtain ⟨x1A, x1n, x1c, e1, h⟩ := vS_elim h
            obtain ⟨x5A, x5n, x5c, e5, h⟩ := vS_elim h
            obtain ⟨x6, e6, h⟩ := vP_elim h
            obtain ⟨x7, e7, h⟩ := vPa_elim h
            refine J.sub ?_ ((((((Sub.base _).upd e0).upd e1).upd e5).upd e6).upd e7)
            clear e0 e1 e5 e6 e7
            refine J_seq (fun σ w => vS (σ 0) fun x0A x0n x0c => vS (σ 5) fun x5A x5n x5c => law01_NumReads.p22 K x0A x0n x0c x5A x5n x5c w) ?_ ?_
            ·
              refine J_seq (fun σ w => vS (σ 0) fun x0A x0n x0c => vS (σ 1) fun x1A x1n x1c => vS (σ 5) fun x5A x5n x5c => vP (σ 6) fun x6 => vPa (σ 7) fun x7 => vI .i64 (σ 8) fun x8 => law01_NumReads.p5 K x0A x0n x0c x1A x1n x1c x5A x5n x5c x6 x7 x8 w) ?_ ?_
              ·
                exact sh_sound _ _ _ _ (Eq.mp (by kernel_rfl) h)
              · intro σ w h
                obtain ⟨x0A, x0n, x0c, e0, h⟩ := vS_elim h
                obtain ⟨x1A, x1n, x1c, e1, h⟩ := vS_elim h
                obtain ⟨x5A, x5n, x5c, e5, h⟩ := vS_elim h
                obtain ⟨x6, e6, h⟩ := vP_elim h
                obtain ⟨x7, e7, h⟩ := vPa_elim h
                obtain ⟨x8, e8, h⟩ := vI_elim h
                refine J.sub ?_ (((((((Sub.base _).upd e0).upd e1).upd e5).upd e6).upd e7).upd e8)
                clear e0 e1 e5 e6 e7 e8
                refine J_block ?_
                refine J_loop (fun k σ w => vS (σ 0) fun x0A x0n x0c => vS (σ 1) fun x1A x1n x1c => vS (σ 5) fun x5A x5n x5c => vP (σ 6) fun x6 => vPa (σ 7) fun x7 => vI .i64 (σ 8) fun x8 => law01_NumReads.l0 K k x0A x0n x0c x1A x1n x1c x5A x5n x5c x6 x7 x8 w) (Eq.mp (by kernel_rfl) h) ?_ ?_
                · intro σ w h
                  obtain ⟨x0A, x0n, x0c, e0, h⟩ := vS_elim h
                  obtain ⟨x1A, x1n, x1c, e1, h⟩ := vS_elim h
                  obtain ⟨x5A, x5n, x5c, e5, h⟩ := vS_elim h
                  obtain ⟨x6, e6, h⟩ := vP_elim h
                  obtain ⟨x7, e7, h⟩ := vPa_elim h
                  obtain ⟨x8, e8, h⟩ := vI_elim h
                  exact h
                · intro k0 σ w h
                  obtain ⟨x0A, x0n, x0c, e0, h⟩ := vS_elim h
                  obtain ⟨x1A, x1n, x1c, e1, h⟩ := vS_elim h
                  obtain ⟨x5A, x5n, x5c, e5, h⟩ := vS_elim h
                  obtain ⟨x6, e6, h⟩ := vP_elim h
                  obtain ⟨x7, e7, h⟩ := vPa_elim h
                  obtain ⟨x8, e8, h⟩ := vI_elim h
                  refine J.sub ?_ (((((((Sub.base _).upd e0).upd e1).upd e5).upd e6).upd e7).upd e8)
                  clear e0 e1 e5 e6 e7 e8
                  refine J_seq (fun σ w => vS (σ 0) fun x0A x0n x0c => vS (σ 1) fun x1A x1n x1c => vS (σ 5) fun x5A x5n x5c => vP (σ 6) fun x6 => vPa (σ 7) fun x7 => vI .i64 (σ 8) fun x8 => law01_NumReads.p7 (law01_NumReads.l0 K k0) K x0A x0n x0c x1A x1n x1c x5A x5n x5c x6 x7 x8 w) ?_ ?_
                  ·
                    refine J_seq (fun σ w => vS (σ 0) fun x0A x0n x0c => vS (σ 1) fun x1A x1n x1c => vS (σ 5) fun x5A x5n x5c => vP (σ 6) fun x6 => vPa (σ 7) fun x7 => vI .i64 (σ 8) fun x8 => vB (σ 29) fun x29 => law01_NumReads.p6 (law01_NumReads.l0 K k0) K x0A x0n x0c x1A x1n x1c x5A x5n x5c x6 x7 x8 x29 w) ?_ ?_
                    ·
                      exact sh_sound _ _ _ _ (Eq.mp (by kernel_rfl) h)
                    · intro σ w h
                      obtain ⟨x0A, x0n, x0c, e0, h⟩ := vS_elim h
                      obtain ⟨x1A, x1n, x1c, e1, h⟩ := vS_elim h
                      obtain ⟨x5A, x5n, x5c, e5, h⟩ := vS_elim h
                      obtain ⟨x6, e6, h⟩ := vP_elim h
                      obtain ⟨x7, e7, h⟩ := vPa_elim h
                      obtain ⟨x8, e8, h⟩ := vI_elim h
                      obtain ⟨x29, e29, h⟩ := vB_elim h
                      refine J.sub ?_ ((((((((Sub.base _).upd e0).upd e1).upd e5).upd e6).upd e7).upd e8).upd e29)
                      clear e0 e1 e5 e6 e7 e8 e29
                      exact sh_sound _ _ _ _ (Eq.mp (by kernel_rfl) h)
                  · intro σ w h
                    obtain ⟨x0A, x0n, x0c, e0, h⟩ := vS_elim h
                    obtain ⟨x1A, x1n, x1c, e1, h⟩ := vS_elim h
                    obtain ⟨x5A, x5n, x5c, e5, h⟩ := vS_elim h
                    obtain ⟨x6, e6, h⟩ := vP_elim h
                    obtain ⟨x7, e7, h⟩ := vPa_elim h
                    obtain ⟨x8, e8, h⟩ := vI_elim h
                    refine J.sub ?_ (((((((Sub.base _).upd e0).upd e1).upd e5).upd e6).upd e7).upd e8)
                    clear e0 e1 e5 e6 e7 e8
                    refine J_seq (fun σ w => vS (σ 0) fun x0A x0n x0c => vS (σ 1) fun x1A x1n x1c => vS (σ 5) fun x5A x5n x5c => vP (σ 6) fun x6 => vPa (σ 7) fun x7 => vI .i64 (σ 8) fun x8 => law01_NumReads.p14 (law01_NumReads.l0 K k0) K x0A x0n x0c x1A x1n x1c x5A x5n x5c x6 x7 x8 w) ?_ ?_
                    ·
                      refine J_block ?_
                      refine J_seq (fun σ w => vS (σ 0) fun x0A x0n x0c => vS (σ 1) fun x1A x1n x1c => vS (σ 5) fun x5A x5n x5c => vP (σ 6) fun x6 => vPa (σ 7) fun x7 => vI .i64 (σ 8) fun x8 => vPa (σ 9) fun x9 => law01_NumReads.p8 (law01_NumReads.l0 K k0) K x0A x0n x0c x1A x1n x1c x5A x5n x5c x6 x7 x8 x9 w) ?_ ?_
                      ·
                        exact sh_sound _ _ _ _ (Eq.mp (by kernel_rfl) h)
                      · intro σ w h
                        obtain ⟨x0A, x0n, x0c, e0, h⟩ := vS_elim h
                        obtain ⟨x1A, x1n, x1c, e1, h⟩ := vS_elim h
                        obtain ⟨x5A, x5n, x5c, e5, h⟩ := vS_elim h
                        obtain ⟨x6, e6, h⟩ := vP_elim h
                        obtain ⟨x7, e7, h⟩ := vPa_elim h
                        obtain ⟨x8, e8, h⟩ := vI_elim h
                        obtain ⟨x9, e9, h⟩ := vPa_elim h
                        refine J.sub ?_ ((((((((Sub.base _).upd e0).upd e1).upd e5).upd e6).upd e7).upd e8).upd e9)
                        clear e0 e1 e5 e6 e7 e8 e9
                        refine J_seq (fun σ w => vS (σ 0) fun x0A x0n x0c => vS (σ 1) fun x1A x1n x1c => vS (σ 5) fun x5A x5n x5c => vP (σ 6) fun x6 => vPa (σ 7) fun x7 => vI .i64 (σ 8) fun x8 => law01_NumReads.p12 (law01_NumReads.l0 K k0) K x0A x0n x0c x1A x1n x1c x5A x5n x5c x6 x7 x8 w) ?_ ?_
                        ·
                          refine J_seq (fun σ w => vS (σ 0) fun x0A x0n x0c => vS (σ 1) fun x1A x1n x1c => vS (σ 5) fun x5A x5n x5c => vP (σ 6) fun x6 => vPa (σ 7) fun x7 => vI .i64 (σ 8) fun x8 => vPa (σ 9) fun x9 => vI .i64 (σ 37) fun x37 => law01_NumReads.p9 (law01_NumReads.l0 K k0) K x0A x0n x0c x1A x1n x1c x5A x5n x5c x6 x7 x8 x9 x37 w) ?_ ?_
                          ·
                            exact sh_sound _ _ _ _ (Eq.mp (by kernel_rfl) h)
                          · intro σ w h
                            obtain ⟨x0A, x0n, x0c, e0, h⟩ := vS_elim h
                            obtain ⟨x1A, x1n, x1c, e1, h⟩ := vS_elim h
                            obtain ⟨x5A, x5n, x5c, e5, h⟩ := vS_elim h
                            obtain ⟨x6, e6, h⟩ := vP_elim h
                            obtain ⟨x7, e7, h⟩ := vPa_elim h
                            obtain ⟨x8, e8, h⟩ := vI_elim h
                            obtain ⟨x9, e9, h⟩ := vPa_elim h
                            obtain ⟨x37, e37, h⟩ := vI_elim h
                            refine J.sub ?_ (((((((((Sub.base _).upd e0).upd e1).upd e5).upd e6).upd e7).upd e8).upd e9).upd e37)
                            clear e0 e1 e5 e6 e7 e8 e9 e37
                            refine J_block ?_
                            refine J_seq (fun σ w => vS (σ 0) fun x0A x0n x0c => vS (σ 1) fun x1A x1n x1c => vS (σ 5) fun x5A x5n x5c => vP (σ 6) fun x6 => vPa (σ 7) fun x7 => vI .i64 (σ 8) fun x8 => vPa (σ 9) fun x9 => vI .i64 (σ 37) fun x37 => vB (σ 38) fun x38 => law01_NumReads.p10 (law01_NumReads.l0 K k0) K x0A x0n x0c x1A x1n x1c x5A x5n x5c x6 x7 x8 x9 x37 x38 w) ?_ ?_
                            ·
                              exact sh_sound _ _ _ _ (Eq.mp (by kernel_rfl) h)
                            · intro σ w h
                              obtain ⟨x0A, x0n, x0c, e0, h⟩ := vS_elim h
                              obtain ⟨x1A, x1n, x1c, e1, h⟩ := vS_elim h
                              obtain ⟨x5A, x5n, x5c, e5, h⟩ := vS_elim h
                              obtain ⟨x6, e6, h⟩ := vP_elim h
                              obtain ⟨x7, e7, h⟩ := vPa_elim h
                              obtain ⟨x8, e8, h⟩ := vI_elim h
                              obtain ⟨x9, e9, h⟩ := vPa_elim h
                              obtain ⟨x37, e37, h⟩ := vI_elim h
                              obtain ⟨x38, e38, h⟩ := vB_elim h
                              refine J.sub ?_ ((((((((((Sub.base _).upd e0).upd e1).upd e5).upd e6).upd e7).upd e8).upd e9).upd e37).upd e38)
                              clear e0 e1 e5 e6 e7 e8 e9 e37 e38
                              refine J_cond' h (by kernel_rfl) (fun h => ?_) (fun h => ?_)
                              ·
                                refine J_seq (fun σ w => vS (σ 0) fun x0A x0n x0c => vS (σ 1) fun x1A x1n x1c => vS (σ 5) fun x5A x5n x5c => vP (σ 6) fun x6 => vPa (σ 7) fun x7 => vI .i64 (σ 8) fun x8 => vB (σ 48) fun x48 => law01_NumReads.p11 (law01_NumReads.l0 K k0) K x0A x0n x0c x1A x1n x1c x5A x5n x5c x6 x7 x8 x48 w) ?_ ?_
                                ·
                                  exact J_held [] [(0, 0), (1, 0), (4, 0), (5, 0), (2, 1), (6, 1), (3, 2), (7, 2), (8, 0)] (by kernel_rfl) (Eq.mp (by kernel_rfl) h)
                                · intro σ w h
                                  obtain ⟨x0A, x0n, x0c, e0, h⟩ := vS_elim h
                                  obtain ⟨x1A, x1n, x1c, e1, h⟩ := vS_elim h
                                  obtain ⟨x5A, x5n, x5c, e5, h⟩ := vS_elim h
                                  obtain ⟨x6, e6, h⟩ := vP_elim h
                                  obtain ⟨x7, e7, h⟩ := vPa_elim h
                                  obtain ⟨x8, e8, h⟩ := vI_elim h
                                  obtain ⟨x48, e48, h⟩ := vB_elim h
                                  refine J.sub ?_ ((((((((Sub.base _).upd e0).upd e1).upd e5).upd e6).upd e7).upd e8).upd e48)
                                  clear e0 e1 e5 e6 e7 e8 e48
                                  exact sh_sound _ _ _ _ (Eq.mp (by kernel_rfl) h)
                              ·
                                refine J_seq (fun σ w => vS (σ 0) fun x0A x0n x0c => vS (σ 1) fun x1A x1n x1c => vS (σ 5) fun x5A x5n x5c => vP (σ 6) fun x6 => vPa (σ 7) fun x7 => vI .i64 (σ 8) fun x8 => vPa (σ 9) fun x9 => vI .i64 (σ 37) fun x37 => vB (σ 49) fun x49 => law01_NumReads.p15 (law01_NumReads.l0 K k0) K x0A x0n x0c x1A x1n x1c x5A x5n x5c x6 x7 x8 x9 x37 x49 w) ?_ ?_
                                ·
                                  exact sh_sound _ _ _ _ (Eq.mp (by kernel_rfl) h)
                                · intro σ w h
                                  obtain ⟨x0A, x0n, x0c, e0, h⟩ := vS_elim h
                                  obtain ⟨x1A, x1n, x1c, e1, h⟩ := vS_elim h
                                  obtain ⟨x5A, x5n, x5c, e5, h⟩ := vS_elim h
                                  obtain ⟨x6, e6, h⟩ := vP_elim h
                                  obtain ⟨x7, e7, h⟩ := vPa_elim h
                                  obtain ⟨x8, e8, h⟩ := vI_elim h
                                  obtain ⟨x9, e9, h⟩ := vPa_elim h
                                  obtain ⟨x37, e37, h⟩ := vI_elim h
                                  obtain ⟨x49, e49, h⟩ := vB_elim h
                                  refine J.sub ?_ ((((((((((Sub.base _).upd e0).upd e1).upd e5).upd e6).upd e7).upd e8).upd e9).upd e37).upd e49)
                                  clear e0 e1 e5 e6 e7 e8 e9 e37 e49
                                  refine J_cond' h (by kernel_rfl) (fun h => ?_) (fun h => ?_)
                                  ·
                                    exact sh_sound _ _ _ _ (Eq.mp (by kernel_rfl) h)
                                  ·
                                    refine J_seq (fun σ w => vS (σ 0) fun x0A x0n x0c => vS (σ 1) fun x1A x1n x1c => vS (σ 5) fun x5A x5n x5c => vP (σ 6) fun x6 => vPa (σ 7) fun x7 => vI .i64 (σ 8) fun x8 => vPa (σ 9) fun x9 => vI .i64 (σ 37) fun x37 => vB (σ 56) fun x56 => law01_NumReads.p16 (law01_NumReads.l0 K k0) K x0A x0n x0c x1A x1n x1c x5A x5n x5c x6 x7 x8 x9 x37 x56 w) ?_ ?_
                                    ·
                                      exact sh_sound _ _ _ _ (Eq.mp (by kernel_rfl) h)
                                    · intro σ w h
                                      obtain ⟨x0A, x0n, x0c, e0, h⟩ := vS_elim h
                                      obtain ⟨x1A, x1n, x1c, e1, h⟩ := vS_elim h
                                      obtain ⟨x5A, x5n, x5c, e5, h⟩ := vS_elim h
                                      obtain ⟨x6, e6, h⟩ := vP_elim h
                                      obtain ⟨x7, e7, h⟩ := vPa_elim h
                                      obtain ⟨x8, e8, h⟩ := vI_elim h
                                      obtain ⟨x9, e9, h⟩ := vPa_elim h
                                      obtain ⟨x37, e37, h⟩ := vI_elim h
                                      obtain ⟨x56, e56, h⟩ := vB_elim h
                                      refine J.sub ?_ ((((((((((Sub.base _).upd e0).upd e1).upd e5).upd e6).upd e7).upd e8).upd e9).upd e37).upd e56)
                                      clear e0 e1 e5 e6 e7 e8 e9 e37 e56
                                      refine J_cond' h (by kernel_rfl) (fun h => ?_) (fun h => ?_)
                                      ·
                                        refine J_seq (fun σ w => vS (σ 0) fun x0A x0n x0c => vS (σ 1) fun x1A x1n x1c => vS (σ 5) fun x5A x5n x5c => vP (σ 6) fun x6 => vPa (σ 7) fun x7 => vI .i64 (σ 8) fun x8 => vB (σ 66) fun x66 => law01_NumReads.p17 (law01_NumReads.l0 K k0) K x0A x0n x0c x1A x1n x1c x5A x5n x5c x6 x7 x8 x66 w) ?_ ?_
                                        ·
                                          exact J_held [] [(0, 0), (1, 0), (4, 0), (5, 0), (2, 1), (6, 1), (3, 2), (7, 2), (8, 0)] (by kernel_rfl) (Eq.mp (by kernel_rfl) h)
                                        · intro σ w h
                                          obtain ⟨x0A, x0n, x0c, e0, h⟩ := vS_elim h
                                          obtain ⟨x1A, x1n, x1c, e1, h⟩ := vS_elim h
                                          obtain ⟨x5A, x5n, x5c, e5, h⟩ := vS_elim h
                                          obtain ⟨x6, e6, h⟩ := vP_elim h
                                          obtain ⟨x7, e7, h⟩ := vPa_elim h
                                          obtain ⟨x8, e8, h⟩ := vI_elim h
                                          obtain ⟨x66, e66, h⟩ := vB_elim h
                                          refine J.sub ?_ ((((((((Sub.base _).upd e0).upd e1).upd e5).upd e6).upd e7).upd e8).upd e66)
                                          clear e0 e1 e5 e6 e7 e8 e66
                                          exact sh_sound _ _ _ _ (Eq.mp (by kernel_rfl) h)
                                      ·
                                        refine J_seq (fun σ w => vS (σ 0) fun x0A x0n x0c => vS (σ 1) fun x1A x1n x1c => vS (σ 5) fun x5A x5n x5c => vP (σ 6) fun x6 => vPa (σ 7) fun x7 => vI .i64 (σ 8) fun x8 => vPa (σ 9) fun x9 => vI .i64 (σ 37) fun x37 => vB (σ 67) fun x67 => law01_NumReads.p18 (law01_NumReads.l0 K k0) K x0A x0n x0c x1A x1n x1c x5A x5n x5c x6 x7 x8 x9 x37 x67 w) ?_ ?_
                                        ·
                                          exact sh_sound _ _ _ _ (Eq.mp (by kernel_rfl) h)
                                        · intro σ w h
                                          obtain ⟨x0A, x0n, x0c, e0, h⟩ := vS_elim h
                                          obtain ⟨x1A, x1n, x1c, e1, h⟩ := vS_elim h
                                          obtain ⟨x5A, x5n, x5c, e5, h⟩ := vS_elim h
                                          obtain ⟨x6, e6, h⟩ := vP_elim h
                                          obtain ⟨x7, e7, h⟩ := vPa_elim h
                                          obtain ⟨x8, e8, h⟩ := vI_elim h
                                          obtain ⟨x9, e9, h⟩ := vPa_elim h
                                          obtain ⟨x37, e37, h⟩ := vI_elim h
                                          obtain ⟨x67, e67, h⟩ := vB_elim h
                                          refine J.sub ?_ ((((((((((Sub.base _).upd e0).upd e1).upd e5).upd e6).upd e7).upd e8).upd e9).upd e37).upd e67)
                                          clear e0 e1 e5 e6 e7 e8 e9 e37 e67
                                          refine J_cond' h (by kernel_rfl) (fun h => ?_) (fun h => ?_)
                                          ·
                                            refine J_seq (fun σ w => vS (σ 0) fun x0A x0n x0c => vS (σ 1) fun x1A x1n x1c => vS (σ 5) fun x5A x5n x5c => vP (σ 6) fun x6 => vPa (σ 7) fun x7 => vI .i64 (σ 8) fun x8 => vPa (σ 9) fun x9 => vS (σ 10) fun x10A x10n x10c => law01_NumReads.p19 (law01_NumReads.l0 K k0) K x0A x0n x0c x1A x1n x1c x5A x5n x5c x6 x7 x8 x9 x10A x10n x10c w) ?_ ?_
                                            ·
                                              exact sh_sound _ _ _ _ (Eq.mp (by kernel_rfl) h)
                                            · intro σ w h
                                              obtain ⟨x0A, x0n, x0c, e0, h⟩ := vS_elim h
                                              obtain ⟨x1A, x1n, x1c, e1, h⟩ := vS_elim h
                                              obtain ⟨x5A, x5n, x5c, e5, h⟩ := vS_elim h
                                              obtain ⟨x6, e6, h⟩ := vP_elim h
                                              obtain ⟨x7, e7, h⟩ := vPa_elim h
                                              obtain ⟨x8, e8, h⟩ := vI_elim h
                                              obtain ⟨x9, e9, h⟩ := vPa_elim h
                                              obtain ⟨x10A, x10n, x10c, e10, h⟩ := vS_elim h
                                              refine J.sub ?_ (((((((((Sub.base _).upd e0).upd e1).upd e5).upd e6).upd e7).upd e8).upd e9).upd e10)
                                              clear e0 e1 e5 e6 e7 e8 e9 e10
                                              refine J_seq (fun σ w => vS (σ 0) fun x0A x0n x0c => vS (σ 1) fun x1A x1n x1c => vS (σ 5) fun x5A x5n x5c => vP (σ 6) fun x6 => vPa (σ 7) fun x7 => vI .i64 (σ 8) fun x8 => vS (σ 10) fun x10A x10n x10c => law01_NumReads.p20 (law01_NumReads.l0 K k0) K x0A x0n x0c x1A x1n x1c x5A x5n x5c x6 x7 x8 x10A x10n x10c w) ?_ ?_
                                              ·
                                                exact sh_sound _ _ _ _ (Eq.mp (by kernel_rfl) h)
                                              · intro σ w h
                                                obtain ⟨x0A, x0n, x0c, e0, h⟩ := vS_elim h
                                                obtain ⟨x1A, x1n, x1c, e1, h⟩ := vS_elim h
                                                obtain ⟨x5A, x5n, x5c, e5, h⟩ := vS_elim h
                                                obtain ⟨x6, e6, h⟩ := vP_elim h
                                                obtain ⟨x7, e7, h⟩ := vPa_elim h
                                                obtain ⟨x8, e8, h⟩ := vI_elim h
                                                obtain ⟨x10A, x10n, x10c, e10, h⟩ := vS_elim h
                                                refine J.sub ?_ ((((((((Sub.base _).upd e0).upd e1).upd e5).upd e6).upd e7).upd e8).upd e10)
                                                clear e0 e1 e5 e6 e7 e8 e10
                                                refine J_seq (fun σ w => vS (σ 0) fun x0A x0n x0c => vS (σ 1) fun x1A x1n x1c => vS (σ 5) fun x5A x5n x5c => vP (σ 6) fun x6 => vPa (σ 7) fun x7 => vI .i64 (σ 8) fun x8 => vS (σ 10) fun x10A x10n x10c => vI .i64 (σ 81) fun x81 => vI .i64 (σ 82) fun x82 => law01_NumReads.p21 (law01_NumReads.l0 K k0) K x0A x0n x0c x1A x1n x1c x5A x5n x5c x6 x7 x8 x10A x10n x10c x81 x82 w) ?_ ?_
                                                ·
                                                  exact sh_sound _ _ _ _ (Eq.mp (by kernel_rfl) h)
                                                · intro σ w h
                                                  obtain ⟨x0A, x0n, x0c, e0, h⟩ := vS_elim h
                                                  obtain ⟨x1A, x1n, x1c, e1, h⟩ := vS_elim h
                                                  obtain ⟨x5A, x5n, x5c, e5, h⟩ := vS_elim h
                                                  obtain ⟨x6, e6, h⟩ := vP_elim h
                                                  obtain ⟨x7, e7, h⟩ := vPa_elim h
                                                  obtain ⟨x8, e8, h⟩ := vI_elim h
                                                  obtain ⟨x10A, x10n, x10c, e10, h⟩ := vS_elim h
                                                  obtain ⟨x81, e81, h⟩ := vI_elim h
                                                  obtain ⟨x82, e82, h⟩ := vI_elim h
                                                  refine J.sub ?_ ((((((((((Sub.base _).upd e0).upd e1).upd e5).upd e6).upd e7).upd e8).upd e10).upd e81).upd e82)
                                                  clear e0 e1 e5 e6 e7 e8 e10 e81 e82
                                                  refine J_block ?_
                                                  refine J_loop (fun k σ w => vS (σ 0) fun x0A x0n x0c => vS (σ 1) fun x1A x1n x1c => vS (σ 5) fun x5A x5n x5c => vP (σ 6) fun x6 => vPa (σ 7) fun x7 => vI .i64 (σ 8) fun x8 => vS (σ 10) fun x10A x10n x10c => vI .i64 (σ 81) fun x81 => vI .i64 (σ 82) fun x82 => law01_NumReads.l1 (law01_NumReads.l0 K k0) K k x0A x0n x0c x1A x1n x1c x5A x5n x5c x6 x7 x8 x10A x10n x10c x81 x82 w) (Eq.mp (by kernel_rfl) h) ?_ ?_
                                                  · intro σ w h
                                                    obtain ⟨x0A, x0n, x0c, e0, h⟩ := vS_elim h
                                                    obtain ⟨x1A, x1n, x1c, e1, h⟩ := vS_elim h
                                                    obtain ⟨x5A, x5n, x5c, e5, h⟩ := vS_elim h
                                                    obtain ⟨x6, e6, h⟩ := vP_elim h
                                                    obtain ⟨x7, e7, h⟩ := vPa_elim h
                                                    obtain ⟨x8, e8, h⟩ := vI_elim h
                                                    obtain ⟨x10A, x10n, x10c, e10, h⟩ := vS_elim h
                                                    obtain ⟨x81, e81, h⟩ := vI_elim h
                                                    obtain ⟨x82, e82, h⟩ := vI_elim h
                                                    exact h
                                                  · intro k1 σ w h
                                                    obtain ⟨x0A, x0n, x0c, e0, h⟩ := vS_elim h
                                                    obtain ⟨x1A, x1n, x1c, e1, h⟩ := vS_elim h
                                                    obtain ⟨x5A, x5n, x5c, e5, h⟩ := vS_elim h
                                                    obtain ⟨x6, e6, h⟩ := vP_elim h
                                                    obtain ⟨x7, e7, h⟩ := vPa_elim h
                                                    obtain ⟨x8, e8, h⟩ := vI_elim h
                                                    obtain ⟨x10A, x10n, x10c, e10, h⟩ := vS_elim h
                                                    obtain ⟨x81, e81, h⟩ := vI_elim h
                                                    obtain ⟨x82, e82, h⟩ := vI_elim h
                                                    refine J.sub ?_ ((((((((((Sub.base _).upd e0).upd e1).upd e5).upd e6).upd e7).upd e8).upd e10).upd e81).upd e82)
                                                    clear e0 e1 e5 e6 e7 e8 e10 e81 e82
                                                    exact sh_sound _ _ _ _ (Eq.mp (by kernel_rfl) h)
                                          ·
                                            exact sh_sound _ _ _ _ (Eq.mp (by kernel_rfl) h)
                        · intro σ w h
                          obtain ⟨x0A, x0n, x0c, e0, h⟩ := vS_elim h
                          obtain ⟨x1A, x1n, x1c, e1, h⟩ := vS_elim h
                          obtain ⟨x5A, x5n, x5c, e5, h⟩ := vS_elim h
                          obtain ⟨x6, e6, h⟩ := vP_elim h
                          obtain ⟨x7, e7, h⟩ := vPa_elim h
                          obtain ⟨x8, e8, h⟩ := vI_elim h
                          refine J.sub ?_ (((((((Sub.base _).upd e0).upd e1).upd e5).upd e6).upd e7).upd e8)
                          clear e0 e1 e5 e6 e7 e8
                          refine J_seq (fun σ w => vS (σ 0) fun x0A x0n x0c => vS (σ 1) fun x1A x1n x1c => vS (σ 5) fun x5A x5n x5c => vP (σ 6) fun x6 => vPa (σ 7) fun x7 => vI .i64 (σ 8) fun x8 => vB (σ 124) fun x124 => law01_NumReads.p13 (law01_NumReads.l0 K k0) K x0A x0n x0c x1A x1n x1c x5A x5n x5c x6 x7 x8 x124 w) ?_ ?_
                          ·
                            exact J_held [] [(0, 0), (2, 0), (1, 2), (3, 2), (4, 0), (5, 0), (6, 0), (8, 0), (9, 0), (10, 0), (11, 1), (7, 2), (12, 0), (13, 0), (14, 0), (15, 0), (17, 0), (16, 2), (18, 2), (19, 0), (20, 0)] (by kernel_rfl) (Eq.mp (by kernel_rfl) h)
                          · intro σ w h
                            obtain ⟨x0A, x0n, x0c, e0, h⟩ := vS_elim h
                            obtain ⟨x1A, x1n, x1c, e1, h⟩ := vS_elim h
                            obtain ⟨x5A, x5n, x5c, e5, h⟩ := vS_elim h
                            obtain ⟨x6, e6, h⟩ := vP_elim h
                            obtain ⟨x7, e7, h⟩ := vPa_elim h
                            obtain ⟨x8, e8, h⟩ := vI_elim h
                            obtain ⟨x124, e124, h⟩ := vB_elim h
                            refine J.sub ?_ ((((((((Sub.base _).upd e0).upd e1).upd e5).upd e6).upd e7).upd e8).upd e124)
                            clear e0 e1 e5 e6 e7 e8 e124
                            exact sh_sound _ _ _ _ (Eq.mp (by kernel_rfl) h)
                    · intro σ w h
                      obtain ⟨x0A, x0n, x0c, e0, h⟩ := vS_elim h
                      obtain ⟨x1A, x1n, x1c, e1, h⟩ := vS_elim h
                      obtain ⟨x5A, x5n, x5c, e5, h⟩ := vS_elim h
                      obtain ⟨x6, e6, h⟩ := vP_elim h
                      obtain ⟨x7, e7, h⟩ := vPa_elim h
                      obtain ⟨x8, e8, h⟩ := vI_elim h
                      refine J.sub ?_ (((((((Sub.base _).upd e0).upd e1).upd e5).upd e6).upd e7).upd e8)
                      clear e0 e1 e5 e6 e7 e8
                      exact sh_sound _ _ _ _ (Eq.mp (by kernel_rfl) h)
            · intro σ w h
              obtain ⟨x0A, x0n, x0c, e0, h⟩ := vS_elim h
              obtain ⟨x5A, x5n, x5c, e5, h⟩ := vS_elim h
              refine J.sub ?_ (((Sub.base _).upd e0).upd e5)
              clear e0 e5
              exact sh_sound _ _ _ _ (Eq.mp (by kernel_rfl) h)

/-! ### hayloft/hayloftlaw01.NumStays: function 9 -/
abbrev law01_NumStays.p10 (L0 : Int → Option Addr → Nat → Nat → Option Addr → Int → World → Prop) (K : Value → World → Prop) (x1 : Int) (x2A : Option Addr) (x2n : Nat) (x2c : Nat) (x7 : Option Addr) (x8 : Int) (w : World) : Prop :=
  L0 x1 x2A x2n x2c x7 (IntKind.wrap .i64 (x8 + (1 : Int))) w
abbrev law01_NumStays.p9 (L0 : Int → Option Addr → Nat → Nat → Option Addr → Int → World → Prop) (K : Value → World → Prop) (x1 : Int) (x2A : Option Addr) (x2n : Nat) (x2c : Nat) (x7 : Option Addr) (x8 : Int) (w : World) : Prop :=
  (0 ≤ x8 ∧ x8 < ((x2n : Nat) : Int)) ∧ ∃ (a14 : Addr), x2A = some a14 ∧ ∃ (n15 : Int), w.cell? (a14.add (x8.toNat * 3)) = some (.int .i64 n15) ∧ CallsE Try.prog 32 #[.pointer x7, .int .i64 n15] w (fun v16 w17 => v16 = .tuple #[] ∧ law01_NumStays.p10 L0 K x1 x2A x2n x2c x7 x8 w17)
abbrev law01_NumStays.p8 (L0 : Int → Option Addr → Nat → Nat → Option Addr → Int → World → Prop) (K : Value → World → Prop) (x1 : Int) (x2A : Option Addr) (x2n : Nat) (x2c : Nat) (x7 : Option Addr) (x8 : Int) (x62 : Bool) (w : World) : Prop :=
  condP x62 (K (.bool false) w) (law01_NumStays.p9 L0 K x1 x2A x2n x2c x7 x8 w)
abbrev law01_NumStays.p7 (L0 : Int → Option Addr → Nat → Nat → Option Addr → Int → World → Prop) (K : Value → World → Prop) (x1 : Int) (x2A : Option Addr) (x2n : Nat) (x2c : Nat) (x7 : Option Addr) (x8 : Int) (w : World) : Prop :=
  (0 ≤ x8 ∧ x8 < ((x2n : Nat) : Int)) ∧ ∃ (a9 : Addr), x2A = some a9 ∧ ∃ (n10 : Int), w.cell? ((a9.add (x8.toNat * 3)).add 1) = some (.int .i64 n10) ∧ CallsE Try.prog 24 #[.pointer x7, .int .i64 n10] w (fun v11 w12 => ∃ (n13 : Int), v11 = .int .u64 n13 ∧ condP (n13 != (0 : Int)) (law01_NumStays.p8 L0 K x1 x2A x2n x2c x7 x8 true w12) (CallsE Try.prog 20 #[.pointer x7] w12 (fun v18 w19 => ∃ (n20 : Int), v18 = .int .u64 n20 ∧ condP (n20 != (0 : Int)) (law01_NumStays.p8 L0 K x1 x2A x2n x2c x7 x8 true w19) ((0 ≤ x8 ∧ x8 < ((x2n : Nat) : Int)) ∧ ∃ (a21 : Addr), x2A = some a21 ∧ ∃ (n22 : Int), w19.cell? ((a21.add (x8.toNat * 3)).add 2) = some (.int .u64 n22) ∧ CallsE Try.prog 23 #[.pointer x7, .int .u64 n22] w19 (fun v23 w24 => ∃ (n25 : Int), v23 = .int .u64 n25 ∧ condP (n25 != (0 : Int)) (law01_NumStays.p8 L0 K x1 x2A x2n x2c x7 x8 true w24) ((0 ≤ x8 ∧ x8 < ((x2n : Nat) : Int)) ∧ ∃ (a26 : Addr), x2A = some a26 ∧ ∃ (n27 : Int), w24.cell? ((a26.add (x8.toNat * 3)).add 1) = some (.int .i64 n27) ∧ CallsE Try.prog 25 #[.pointer x7, .int .i64 n27] w24 (fun v28 w29 => ∃ (A30 : Option Addr) (m31 : Nat) (c32 : Nat), v28 = .slice A30 m31 c32 ∧ law01_NumStays.p8 L0 K x1 x2A x2n x2c x7 x8 (((m31 : Nat) : Int) != (0 : Int)) w29)))))))
abbrev law01_NumStays.p14 (K : Value → World → Prop) (x6 : Bool) (w : World) : Prop :=
  K (.bool x6) w
abbrev law01_NumStays.p13 (K : Value → World → Prop) (x1 : Int) (x7 : Option Addr) (x9 : Option Addr) (w : World) : Prop :=
  CallsE Try.prog 21 #[.pointer x7] w (fun v35 w36 => ∃ (n37 : Int), v35 = .int .i64 n37 ∧ condP (n37 == x1) (CallsE Try.prog 26 #[.pointer x7] w36 (fun v38 w39 => ∃ (n40 : Int), v38 = .int .i64 n40 ∧ condP (n40 == x1) (CallsE Try.prog 22 #[.pointer x7] w39 (fun v41 w42 => ∃ (n43 : Int), v41 = .int .i64 n43 ∧ condP (n43 == (0 : Int)) (CallsE Try.prog 20 #[.pointer x9] w42 (fun v44 w45 => ∃ (n46 : Int), v44 = .int .u64 n46 ∧ condP (n46 == (0 : Int)) (CallsE Try.prog 24 #[.pointer x9, .int .i64 3] w45 (fun v47 w48 => ∃ (n49 : Int), v47 = .int .u64 n49 ∧ condP (n49 == (0 : Int)) (CallsE Try.prog 23 #[.pointer x9, .int .u64 9] w48 (fun v50 w51 => ∃ (n52 : Int), v50 = .int .u64 n52 ∧ condP (n52 == (0 : Int)) (CallsE Try.prog 25 #[.pointer x9, .int .i64 1] w51 (fun v53 w54 => ∃ (A55 : Option Addr) (m56 : Nat) (c57 : Nat), v53 = .slice A55 m56 c57 ∧ condP (((m56 : Nat) : Int) == (0 : Int)) (CallsE Try.prog 22 #[.pointer x9] w54 (fun v58 w59 => ∃ (n60 : Int), v58 = .int .i64 n60 ∧ condP (n60 == (0 : Int)) (CallsE Try.prog 21 #[.pointer x9] w59 (fun v61 w62 => ∃ (n63 : Int), v61 = .int .i64 n63 ∧ condP (n63 == (1 : Int)) (CallsE Try.prog 26 #[.pointer x9] w62 (fun v64 w65 => ∃ (n66 : Int), v64 = .int .i64 n66 ∧ law01_NumStays.p14 K (n66 == (1 : Int)) w65)) (law01_NumStays.p14 K false w62))) (law01_NumStays.p14 K false w59))) (law01_NumStays.p14 K false w54))) (law01_NumStays.p14 K false w51))) (law01_NumStays.p14 K false w48))) (law01_NumStays.p14 K false w45))) (law01_NumStays.p14 K false w42))) (law01_NumStays.p14 K false w39))) (law01_NumStays.p14 K false w36))
abbrev law01_NumStays.p12 (K : Value → World → Prop) (x1 : Int) (x7 : Option Addr) (x9 : Option Addr) (w : World) : Prop :=
  CallsE Try.prog 32 #[.pointer x9, .int .i64 2] w (fun v33 w34 => v33 = .tuple #[] ∧ law01_NumStays.p13 K x1 x7 x9 w34)
abbrev law01_NumStays.p11 (K : Value → World → Prop) (x1 : Int) (x7 : Option Addr) (w : World) : Prop :=
  law01_NumStays.p12 K x1 x7 none w
abbrev law01_NumStays.p6 (L0 : Int → Option Addr → Nat → Nat → Option Addr → Int → World → Prop) (K : Value → World → Prop) (x1 : Int) (x2A : Option Addr) (x2n : Nat) (x2c : Nat) (x7 : Option Addr) (x8 : Int) (x26 : Bool) (w : World) : Prop :=
  condP x26 (law01_NumStays.p7 L0 K x1 x2A x2n x2c x7 x8 w) (law01_NumStays.p11 K x1 x7 w)
abbrev law01_NumStays.b0 (L0 : Int → Option Addr → Nat → Nat → Option Addr → Int → World → Prop) (K : Value → World → Prop) (x1 : Int) (x2A : Option Addr) (x2n : Nat) (x2c : Nat) (x7 : Option Addr) (x8 : Int) (w : World) : Prop :=
  condP (decide (x8 < ((x2n : Nat) : Int))) (law01_NumStays.p6 L0 K x1 x2A x2n x2c x7 x8 (decide (x8 < (200 : Int))) w) (law01_NumStays.p6 L0 K x1 x2A x2n x2c x7 x8 false w)
def law01_NumStays.l0 (K : Value → World → Prop) (k : Nat) : Int → Option Addr → Nat → Nat → Option Addr → Int → World → Prop :=
  Nat.rec (motive := fun _ => Int → Option Addr → Nat → Nat → Option Addr → Int → World → Prop) (fun _ _ _ _ _ _ _ => False) (fun _ ih => law01_NumStays.b0 ih K) k
theorem law01_NumStays.l0_succ (K : Value → World → Prop) (k : Nat) (x1 : Int) (x2A : Option Addr) (x2n : Nat) (x2c : Nat) (x7 : Option Addr) (x8 : Int) (w : World) : law01_NumStays.l0 K (k + 1) x1 x2A x2n x2c x7 x8 w = law01_NumStays.b0 (law01_NumStays.l0 K k) K x1 x2A x2n x2c x7 x8 w := rfl
abbrev law01_NumStays.p5 (K : Value → World → Prop) (x1 : Int) (x2A : Option Addr) (x2n : Nat) (x2c : Nat) (x7 : Option Addr) (x8 : Int) (w : World) : Prop :=
  ∃ k, law01_NumStays.l0 K k x1 x2A x2n x2c x7 x8 w
abbrev law01_NumStays.p4 (K : Value → World → Prop) (x1 : Int) (x2A : Option Addr) (x2n : Nat) (x2c : Nat) (x7 : Option Addr) (w : World) : Prop :=
  law01_NumStays.p5 K x1 x2A x2n x2c x7 0 w
abbrev law01_NumStays.p3 (K : Value → World → Prop) (x1 : Int) (x2A : Option Addr) (x2n : Nat) (x2c : Nat) (x7 : Option Addr) (w : World) : Prop :=
  CallsE Try.prog 32 #[.pointer x7, .int .i64 x1] w (fun v7 w8 => v7 = .tuple #[] ∧ law01_NumStays.p4 K x1 x2A x2n x2c x7 w8)
abbrev law01_NumStays.p2 (K : Value → World → Prop) (x0A : Option Addr) (x0n : Nat) (x0c : Nat) (x1 : Int) (x2A : Option Addr) (x2n : Nat) (x2c : Nat) (w : World) : Prop :=
  CallsE Try.prog 19 #[.slice x0A x0n x0c] w (fun v4 w5 => ∃ (p6 : Option Addr), v4 = .pointer p6 ∧ law01_NumStays.p3 K x1 x2A x2n x2c p6 w5)
abbrev law01_NumStays.p1 (K : Value → World → Prop) (x0A : Option Addr) (x0n : Nat) (x0c : Nat) (x1 : Int) (x2A : Option Addr) (x2n : Nat) (x2c : Nat) (w : World) : Prop :=
  condP (x1 == (0 : Int)) (K (.bool true) w) (law01_NumStays.p2 K x0A x0n x0c x1 x2A x2n x2c w)
abbrev law01_NumStays.p0 (K : Value → World → Prop) (x0A : Option Addr) (x0n : Nat) (x0c : Nat) (x1 : Int) (x2A : Option Addr) (x2n : Nat) (x2c : Nat) (w : World) : Prop :=
  CallsE Try.prog 10 #[] w (fun v1 w2 => ∃ (b3 : Bool), v1 = .bool b3 ∧ condP (!b3) (K (.bool false) w2) (law01_NumStays.p1 K x0A x0n x0c x1 x2A x2n x2c w2))
abbrev law01_NumStays.F (q0A : Option Addr) (q0n : Nat) (q0c : Nat) (q1 : Int) (q2A : Option Addr) (q2n : Nat) (q2c : Nat) (K : Value → World → Prop) (w : World) : Prop :=
  law01_NumStays.p0 K q0A q0n q0c q1 q2A q2n q2c w
theorem law01_NumStays.ok {q0A : Option Addr} {q0n : Nat} {q0c : Nat} {q1 : Int} {q2A : Option Addr} {q2n : Nat} {q2c : Nat} {K : Value → World → Prop} {w : World} (h : law01_NumStays.F q0A q0n q0c q1 q2A q2n q2c K w) :
    CallsE Try.prog 9 #[.slice q0A q0n q0c, .int .i64 q1, .slice q2A q2n q2c] w K := by
  refine calls_of_J (n := 123) (rs := [.tmp 6]) Try.func9 rfl rfl rfl rfl ?_
  refine J_seq (fun σ w => vS (σ 0) fun x0A x0n x0c => vI .i64 (σ 1) fun x1 => vS (σ 2) fun x2A x2n x2c => law01_NumStays.p0 K x0A x0n x0c x1 x2A x2n x2c w) ?_ ?_
  ·
    exact sh_sound _ _ _ _ (Eq.mp (by kernel_rfl) h)
  · intro σ w h
    obtain ⟨x0A, x0n, x0c, e0, h⟩ := vS_elim h
    obtain ⟨x1, e1, h⟩ := vI_elim h
    obtain ⟨x2A, x2n, x2c, e2, h⟩ := vS_elim h
    refine J.sub ?_ ((((Sub.base _).upd e0).upd e1).upd e2)
    clear e0 e1 e2
    refine J_seq (fun σ w => vS (σ 0) fun x0A x0n x0c => vI .i64 (σ 1) fun x1 => vS (σ 2) fun x2A x2n x2c => law01_NumStays.p1 K x0A x0n x0c x1 x2A x2n x2c w) ?_ ?_
    ·
      exact sh_sound _ _ _ _ (Eq.mp (by kernel_rfl) h)
    · intro σ w h
      obtain ⟨x0A, x0n, x0c, e0, h⟩ := vS_elim h
      obtain ⟨x1, e1, h⟩ := vI_elim h
      obtain ⟨x2A, x2n, x2c, e2, h⟩ := vS_elim h
      refine J.sub ?_ ((((Sub.base _).upd e0).upd e1).upd e2)
      clear e0 e1 e2
      refine J_seq (fun σ w => vS (σ 0) fun x0A x0n x0c => vI .i64 (σ 1) fun x1 => vS (σ 2) fun x2A x2n x2c => law01_NumStays.p2 K x0A x0n x0c x1 x2A x2n x2c w) ?_ ?_
      ·
        exact sh_sound _ _ _ _ (Eq.mp (by kernel_rfl) h)
      · intro σ w h
        obtain ⟨x0A, x0n, x0c, e0, h⟩ := vS_elim h
        obtain ⟨x1, e1, h⟩ := vI_elim h
        obtain ⟨x2A, x2n, x2c, e2, h⟩ := vS_elim h
        refine J.sub ?_ ((((Sub.base _).upd e0).upd e1).upd e2)
        clear e0 e1 e2
        refine J_seq (fun σ w => vI .i64 (σ 1) fun x1 => vS (σ 2) fun x2A x2n x2c => vP (σ 7) fun x7 => law01_NumStays.p3 K x1 x2A x2n x2c x7 w) ?_ ?_
        ·
          exact sh_sound _ _ _ _ (Eq.mp (by kernel_rfl) h)
        · intro σ w h
          obtain ⟨x1, e1, h⟩ := vI_elim h
          obtain ⟨x2A, x2n, x2c, e2, h⟩ := vS_elim h
          obtain ⟨x7, e7, h⟩ := vP_elim h
          refine J.sub ?_ ((((Sub.base _).upd e1).upd e2).upd e7)
          clear e1 e2 e7
          refine J_seq (fun σ w => vI .i64 (σ 1) fun x1 => vS (σ 2) fun x2A x2n x2c => vP (σ 7) fun x7 => law01_NumStays.p4 K x1 x2A x2n x2c x7 w) ?_ ?_
          ·
            exact sh_sound _ _ _ _ (Eq.mp (by kernel_rfl) h)
          · intro σ w h
            obtain ⟨x1, e1, h⟩ := vI_elim h
            obtain ⟨x2A, x2n, x2c, e2, h⟩ := vS_elim h
            obtain ⟨x7, e7, h⟩ := vP_elim h
            refine J.sub ?_ ((((Sub.base _).upd e1).upd e2).upd e7)
            clear e1 e2 e7
            refine J_seq (fun σ w => vI .i64 (σ 1) fun x1 => vP (σ 7) fun x7 => law01_NumStays.p11 K x1 x7 w) ?_ ?_
            ·
              refine J_seq (fun σ w => vI .i64 (σ 1) fun x1 => vS (σ 2) fun x2A x2n x2c => vP (σ 7) fun x7 => vI .i64 (σ 8) fun x8 => law01_NumStays.p5 K x1 x2A x2n x2c x7 x8 w) ?_ ?_
              ·
                exact sh_sound _ _ _ _ (Eq.mp (by kernel_rfl) h)
              · intro σ w h
                obtain ⟨x1, e1, h⟩ := vI_elim h
                obtain ⟨x2A, x2n, x2c, e2, h⟩ := vS_elim h
                obtain ⟨x7, e7, h⟩ := vP_elim h
                obtain ⟨x8, e8, h⟩ := vI_elim h
                refine J.sub ?_ (((((Sub.base _).upd e1).upd e2).upd e7).upd e8)
                clear e1 e2 e7 e8
                refine J_block ?_
                refine J_loop (fun k σ w => vI .i64 (σ 1) fun x1 => vS (σ 2) fun x2A x2n x2c => vP (σ 7) fun x7 => vI .i64 (σ 8) fun x8 => law01_NumStays.l0 K k x1 x2A x2n x2c x7 x8 w) (Eq.mp (by kernel_rfl) h) ?_ ?_
                · intro σ w h
                  obtain ⟨x1, e1, h⟩ := vI_elim h
                  obtain ⟨x2A, x2n, x2c, e2, h⟩ := vS_elim h
                  obtain ⟨x7, e7, h⟩ := vP_elim h
                  obtain ⟨x8, e8, h⟩ := vI_elim h
                  exact h
                · intro k0 σ w h
                  obtain ⟨x1, e1, h⟩ := vI_elim h
                  obtain ⟨x2A, x2n, x2c, e2, h⟩ := vS_elim h
                  obtain ⟨x7, e7, h⟩ := vP_elim h
                  obtain ⟨x8, e8, h⟩ := vI_elim h
                  refine J.sub ?_ (((((Sub.base _).upd e1).upd e2).upd e7).upd e8)
                  clear e1 e2 e7 e8
                  refine J_seq (fun σ w => vI .i64 (σ 1) fun x1 => vS (σ 2) fun x2A x2n x2c => vP (σ 7) fun x7 => vI .i64 (σ 8) fun x8 => law01_NumStays.p7 (law01_NumStays.l0 K k0) K x1 x2A x2n x2c x7 x8 w) ?_ ?_
                  ·
                    refine J_seq (fun σ w => vI .i64 (σ 1) fun x1 => vS (σ 2) fun x2A x2n x2c => vP (σ 7) fun x7 => vI .i64 (σ 8) fun x8 => vB (σ 26) fun x26 => law01_NumStays.p6 (law01_NumStays.l0 K k0) K x1 x2A x2n x2c x7 x8 x26 w) ?_ ?_
                    ·
                      exact sh_sound _ _ _ _ (Eq.mp (by kernel_rfl) h)
                    · intro σ w h
                      obtain ⟨x1, e1, h⟩ := vI_elim h
                      obtain ⟨x2A, x2n, x2c, e2, h⟩ := vS_elim h
                      obtain ⟨x7, e7, h⟩ := vP_elim h
                      obtain ⟨x8, e8, h⟩ := vI_elim h
                      obtain ⟨x26, e26, h⟩ := vB_elim h
                      refine J.sub ?_ ((((((Sub.base _).upd e1).upd e2).upd e7).upd e8).upd e26)
                      clear e1 e2 e7 e8 e26
                      exact sh_sound _ _ _ _ (Eq.mp (by kernel_rfl) h)
                  · intro σ w h
                    obtain ⟨x1, e1, h⟩ := vI_elim h
                    obtain ⟨x2A, x2n, x2c, e2, h⟩ := vS_elim h
                    obtain ⟨x7, e7, h⟩ := vP_elim h
                    obtain ⟨x8, e8, h⟩ := vI_elim h
                    refine J.sub ?_ (((((Sub.base _).upd e1).upd e2).upd e7).upd e8)
                    clear e1 e2 e7 e8
                    refine J_seq (fun σ w => vI .i64 (σ 1) fun x1 => vS (σ 2) fun x2A x2n x2c => vP (σ 7) fun x7 => vI .i64 (σ 8) fun x8 => law01_NumStays.p10 (law01_NumStays.l0 K k0) K x1 x2A x2n x2c x7 x8 w) ?_ ?_
                    ·
                      refine J_block ?_
                      refine J_seq (fun σ w => vI .i64 (σ 1) fun x1 => vS (σ 2) fun x2A x2n x2c => vP (σ 7) fun x7 => vI .i64 (σ 8) fun x8 => law01_NumStays.p9 (law01_NumStays.l0 K k0) K x1 x2A x2n x2c x7 x8 w) ?_ ?_
                      ·
                        refine J_seq (fun σ w => vI .i64 (σ 1) fun x1 => vS (σ 2) fun x2A x2n x2c => vP (σ 7) fun x7 => vI .i64 (σ 8) fun x8 => vB (σ 62) fun x62 => law01_NumStays.p8 (law01_NumStays.l0 K k0) K x1 x2A x2n x2c x7 x8 x62 w) ?_ ?_
                        ·
                          exact sh_sound _ _ _ _ (Eq.mp (by kernel_rfl) h)
                        · intro σ w h
                          obtain ⟨x1, e1, h⟩ := vI_elim h
                          obtain ⟨x2A, x2n, x2c, e2, h⟩ := vS_elim h
                          obtain ⟨x7, e7, h⟩ := vP_elim h
                          obtain ⟨x8, e8, h⟩ := vI_elim h
                          obtain ⟨x62, e62, h⟩ := vB_elim h
                          refine J.sub ?_ ((((((Sub.base _).upd e1).upd e2).upd e7).upd e8).upd e62)
                          clear e1 e2 e7 e8 e62
                          exact sh_sound _ _ _ _ (Eq.mp (by kernel_rfl) h)
                      · intro σ w h
                        obtain ⟨x1, e1, h⟩ := vI_elim h
                        obtain ⟨x2A, x2n, x2c, e2, h⟩ := vS_elim h
                        obtain ⟨x7, e7, h⟩ := vP_elim h
                        obtain ⟨x8, e8, h⟩ := vI_elim h
                        refine J.sub ?_ (((((Sub.base _).upd e1).upd e2).upd e7).upd e8)
                        clear e1 e2 e7 e8
                        exact sh_sound _ _ _ _ (Eq.mp (by kernel_rfl) h)
                    · intro σ w h
                      obtain ⟨x1, e1, h⟩ := vI_elim h
                      obtain ⟨x2A, x2n, x2c, e2, h⟩ := vS_elim h
                      obtain ⟨x7, e7, h⟩ := vP_elim h
                      obtain ⟨x8, e8, h⟩ := vI_elim h
                      refine J.sub ?_ (((((Sub.base _).upd e1).upd e2).upd e7).upd e8)
                      clear e1 e2 e7 e8
                      exact sh_sound _ _ _ _ (Eq.mp (by kernel_rfl) h)
            · intro σ w h
              obtain ⟨x1, e1, h⟩ := vI_elim h
              obtain ⟨x7, e7, h⟩ := vP_elim h
              refine J.sub ?_ (((Sub.base _).upd e1).upd e7)
              clear e1 e7
              refine J_seq (fun σ w => vI .i64 (σ 1) fun x1 => vP (σ 7) fun x7 => vP (σ 9) fun x9 => law01_NumStays.p12 K x1 x7 x9 w) ?_ ?_
              ·
                exact sh_sound _ _ _ _ (Eq.mp (by kernel_rfl) h)
              · intro σ w h
                obtain ⟨x1, e1, h⟩ := vI_elim h
                obtain ⟨x7, e7, h⟩ := vP_elim h
                obtain ⟨x9, e9, h⟩ := vP_elim h
                refine J.sub ?_ ((((Sub.base _).upd e1).upd e7).upd e9)
                clear e1 e7 e9
                refine J_seq (fun σ w => vI .i64 (σ 1) fun x1 => vP (σ 7) fun x7 => vP (σ 9) fun x9 => law01_NumStays.p13 K x1 x7 x9 w) ?_ ?_
                ·
                  exact sh_sound _ _ _ _ (Eq.mp (by kernel_rfl) h)
                · intro σ w h
                  obtain ⟨x1, e1, h⟩ := vI_elim h
                  obtain ⟨x7, e7, h⟩ := vP_elim h
                  obtain ⟨x9, e9, h⟩ := vP_elim h
                  refine J.sub ?_ ((((Sub.base _).upd e1).upd e7).upd e9)
                  clear e1 e7 e9
                  refine J_seq (fun σ w => vB (σ 6) fun x6 => law01_NumStays.p14 K x6 w) ?_ ?_
                  ·
                    exact sh_sound _ _ _ _ (Eq.mp (by kernel_rfl) h)
                  · intro σ w h
                    obtain ⟨x6, e6, h⟩ := vB_elim h
                    refine J.sub ?_ ((Sub.base _).upd e6)
                    clear e6
                    exact sh_sound _ _ _ _ (Eq.mp (by kernel_rfl) h)

/-! ### hayloft/hayloftlaw01.alive: function 10 -/
abbrev law01_alive.p4 (K : Value → World → Prop) (x0 : Bool) (w : World) : Prop :=
  K (.bool x0) w
abbrev law01_alive.p3 (K : Value → World → Prop) (x1A : Option Addr) (x1n : Nat) (x1c : Nat) (x2A : Option Addr) (x2n : Nat) (x2c : Nat) (x3 : Option Addr) (w : World) : Prop :=
  condP (((x1n : Nat) : Int) == (3 : Int)) ((0 ≤ (0 : Int) ∧ (0 : Int) < ((x1n : Nat) : Int)) ∧ ∃ (a15 : Addr), x1A = some a15 ∧ ∃ (n16 : Int), w.cell? (a15.add ((0 : Int).toNat)) = some (.int .u8 n16) ∧ condP (n16 == (2 : Int)) ((0 ≤ (1 : Int) ∧ (1 : Int) < ((x1n : Nat) : Int)) ∧ ∃ (a17 : Addr), x1A = some a17 ∧ ∃ (n18 : Int), w.cell? (a17.add ((1 : Int).toNat)) = some (.int .u8 n18) ∧ condP (n18 == (1 : Int)) (CallsE Try.prog 14 #[.slice x1A x1n x1c] w (fun v19 w20 => ∃ (n21 : Int), v19 = .int .u64 n21 ∧ condP (n21 == (258 : Int)) (condP (((x2n : Nat) : Int) == (2 : Int)) ((0 ≤ (0 : Int) ∧ (0 : Int) < ((x2n : Nat) : Int)) ∧ ∃ (a22 : Addr), x2A = some a22 ∧ ∃ (n23 : Int), w20.cell? (a22.add ((0 : Int).toNat)) = some (.int .u8 n23) ∧ condP (n23 == (172 : Int)) (CallsE Try.prog 20 #[.pointer x3] w20 (fun v24 w25 => ∃ (n26 : Int), v24 = .int .u64 n26 ∧ condP (n26 == (300 : Int)) (CallsE Try.prog 22 #[.pointer x3] w25 (fun v27 w28 => ∃ (n29 : Int), v27 = .int .i64 n29 ∧ condP (n29 == (1 : Int)) (CallsE Try.prog 26 #[.pointer x3] w28 (fun v30 w31 => ∃ (n32 : Int), v30 = .int .i64 n32 ∧ condP (n32 == (6 : Int)) (CallsE Try.prog 18 #[.int .u64 300] w31 (fun v33 w34 => ∃ (n35 : Int), v33 = .int .i64 n35 ∧ law01_alive.p4 K (n35 == (2 : Int)) w34)) (law01_alive.p4 K false w31))) (law01_alive.p4 K false w28))) (law01_alive.p4 K false w25))) (law01_alive.p4 K false w20)) (law01_alive.p4 K false w20)) (law01_alive.p4 K false w20))) (law01_alive.p4 K false w)) (law01_alive.p4 K false w)) (law01_alive.p4 K false w)
abbrev law01_alive.p2 (K : Value → World → Prop) (x1A : Option Addr) (x1n : Nat) (x1c : Nat) (x2A : Option Addr) (x2n : Nat) (x2c : Nat) (w : World) : Prop :=
  wlet (w.alloc (.cells #[.int .u8 172, .int .u8 2, .int .u8 7] 5)) fun w11 => CallsE Try.prog 19 #[.slice (some ⟨w.heap.size, 0, none⟩) 3 3] w11 (fun v12 w13 => ∃ (p14 : Option Addr), v12 = .pointer p14 ∧ law01_alive.p3 K x1A x1n x1c x2A x2n x2c p14 w13)
abbrev law01_alive.p1 (K : Value → World → Prop) (x1A : Option Addr) (x1n : Nat) (x1c : Nat) (w : World) : Prop :=
  CallsE Try.prog 17 #[.int .u64 300] w (fun v6 w7 => ∃ (A8 : Option Addr) (m9 : Nat) (c10 : Nat), v6 = .slice A8 m9 c10 ∧ law01_alive.p2 K x1A x1n x1c A8 m9 c10 w7)
abbrev law01_alive.p0 (K : Value → World → Prop) (w : World) : Prop :=
  CallsE Try.prog 12 #[.int .u64 258, .int .i64 3] w (fun v1 w2 => ∃ (A3 : Option Addr) (m4 : Nat) (c5 : Nat), v1 = .slice A3 m4 c5 ∧ law01_alive.p1 K A3 m4 c5 w2)
abbrev law01_alive.F (K : Value → World → Prop) (w : World) : Prop :=
  law01_alive.p0 K w
theorem law01_alive.ok {K : Value → World → Prop} {w : World} (h : law01_alive.F K w) :
    CallsE Try.prog 10 #[] w K := by
  refine calls_of_J (n := 58) (rs := [.tmp 0]) Try.func10 rfl rfl rfl rfl ?_
  refine J_seq (fun σ w => law01_alive.p0 K w) ?_ ?_
  ·
    exact sh_sound _ _ _ _ (Eq.mp (by kernel_rfl) h)
  · intro σ w h
    refine J.sub ?_ (Sub.base _)
    refine J_seq (fun σ w => vS (σ 1) fun x1A x1n x1c => law01_alive.p1 K x1A x1n x1c w) ?_ ?_
    ·
      exact sh_sound _ _ _ _ (Eq.mp (by kernel_rfl) h)
    · intro σ w h
      obtain ⟨x1A, x1n, x1c, e1, h⟩ := vS_elim h
      refine J.sub ?_ ((Sub.base _).upd e1)
      clear e1
      refine J_seq (fun σ w => vS (σ 1) fun x1A x1n x1c => vS (σ 2) fun x2A x2n x2c => law01_alive.p2 K x1A x1n x1c x2A x2n x2c w) ?_ ?_
      ·
        exact sh_sound _ _ _ _ (Eq.mp (by kernel_rfl) h)
      · intro σ w h
        obtain ⟨x1A, x1n, x1c, e1, h⟩ := vS_elim h
        obtain ⟨x2A, x2n, x2c, e2, h⟩ := vS_elim h
        refine J.sub ?_ (((Sub.base _).upd e1).upd e2)
        clear e1 e2
        refine J_seq (fun σ w => vS (σ 1) fun x1A x1n x1c => vS (σ 2) fun x2A x2n x2c => vP (σ 3) fun x3 => law01_alive.p3 K x1A x1n x1c x2A x2n x2c x3 w) ?_ ?_
        ·
          exact sh_sound _ _ _ _ (Eq.mp (by kernel_rfl) h)
        · intro σ w h
          obtain ⟨x1A, x1n, x1c, e1, h⟩ := vS_elim h
          obtain ⟨x2A, x2n, x2c, e2, h⟩ := vS_elim h
          obtain ⟨x3, e3, h⟩ := vP_elim h
          refine J.sub ?_ ((((Sub.base _).upd e1).upd e2).upd e3)
          clear e1 e2 e3
          refine J_seq (fun σ w => vB (σ 0) fun x0 => law01_alive.p4 K x0 w) ?_ ?_
          ·
            exact sh_sound _ _ _ _ (Eq.mp (by kernel_rfl) h)
          · intro σ w h
            obtain ⟨x0, e0, h⟩ := vB_elim h
            refine J.sub ?_ ((Sub.base _).upd e0)
            clear e0
            exact sh_sound _ _ _ _ (Eq.mp (by kernel_rfl) h)

/-! ### hayloft/hayloftref01.Same: function 11 -/
abbrev ref01_Same.F (q0A : Option Addr) (q0n : Nat) (q0c : Nat) (q1A : Option Addr) (q1n : Nat) (q1c : Nat) (K : Value → World → Prop) (w : World) : Prop :=
  ∃ (bs1 : List UInt8), bytesAt w q0A q0n bs1 ∧ ∃ (bs2 : List UInt8), bytesAt w q1A q1n bs2 ∧ K (.bool ((⟨bs1.toArray⟩ : ByteArray).toList == (⟨bs2.toArray⟩ : ByteArray).toList)) w
theorem ref01_Same.ok {q0A : Option Addr} {q0n : Nat} {q0c : Nat} {q1A : Option Addr} {q1n : Nat} {q1c : Nat} {K : Value → World → Prop} {w : World} (h : ref01_Same.F q0A q0n q0c q1A q1n q1c K w) :
    CallsE Try.prog 11 #[.slice q0A q0n q0c, .slice q1A q1n q1c] w K := by
  refine calls_of_J (n := 10) (rs := [.tmp 4]) Try.func11 rfl rfl rfl rfl ?_
  exact sh_sound _ _ _ _ (Eq.mp (by kernel_rfl) h)

/-! ### hayloft/num.Put: function 12 -/
abbrev num_Put.p11 (K : Value → World → Prop) (x1 : Int) (x5 : Addr) (w : World) : Prop :=
  (0 ≤ x1 ∧ x1 ≤ x1 ∧ (1 : Int) * x1 ≤ 281474976710656 ∧ x1 ≤ 9223372036854775807) ∧ wlet (w.alloc (.cells (madeCells #[.int .u8 0] (x1.toNat * 1)) 5)) fun w13 => SemJ Try.prog (Builtin.copy_ #[23, 23] 3 #[.slice (some ⟨w.heap.size, 0, none⟩) x1.toNat x1.toNat, .slice (slA (some x5) 0 8 1) (8 - 0) (8 - 0)]) (fun v14 w15 => ∃ (n16 : Int), v14 = .int .i64 n16 ∧ K (.slice (some ⟨w.heap.size, 0, none⟩) x1.toNat x1.toNat) w15) w13
abbrev num_Put.p10 (K : Value → World → Prop) (x0 : Int) (x1 : Int) (x5 : Addr) (w : World) : Prop :=
  (0 ≤ (0 : Int) ∧ (0 : Int) < ((8 : Nat) : Int)) ∧ canStore w (x5.add ((0 : Int).toNat)) ∧ wlet (w.setCell (x5.add ((0 : Int).toNat)) (.int .u8 (IntKind.wrap .u8 x0))) fun w12 => num_Put.p11 K x1 x5 w12
abbrev num_Put.p9 (K : Value → World → Prop) (x0 : Int) (x1 : Int) (x5 : Addr) (w : World) : Prop :=
  0 ≤ (8 : Int) ∧ (0 ≤ (1 : Int) ∧ (1 : Int) < ((8 : Nat) : Int)) ∧ canStore w (x5.add ((1 : Int).toNat)) ∧ wlet (w.setCell (x5.add ((1 : Int).toNat)) (.int .u8 (IntKind.wrap .u8 (ishr .u64 x0 8)))) fun w11 => num_Put.p10 K x0 x1 x5 w11
abbrev num_Put.p8 (K : Value → World → Prop) (x0 : Int) (x1 : Int) (x5 : Addr) (w : World) : Prop :=
  0 ≤ (16 : Int) ∧ (0 ≤ (2 : Int) ∧ (2 : Int) < ((8 : Nat) : Int)) ∧ canStore w (x5.add ((2 : Int).toNat)) ∧ wlet (w.setCell (x5.add ((2 : Int).toNat)) (.int .u8 (IntKind.wrap .u8 (ishr .u64 x0 16)))) fun w10 => num_Put.p9 K x0 x1 x5 w10
abbrev num_Put.p7 (K : Value → World → Prop) (x0 : Int) (x1 : Int) (x5 : Addr) (w : World) : Prop :=
  0 ≤ (24 : Int) ∧ (0 ≤ (3 : Int) ∧ (3 : Int) < ((8 : Nat) : Int)) ∧ canStore w (x5.add ((3 : Int).toNat)) ∧ wlet (w.setCell (x5.add ((3 : Int).toNat)) (.int .u8 (IntKind.wrap .u8 (ishr .u64 x0 24)))) fun w9 => num_Put.p8 K x0 x1 x5 w9
abbrev num_Put.p6 (K : Value → World → Prop) (x0 : Int) (x1 : Int) (x5 : Addr) (w : World) : Prop :=
  0 ≤ (32 : Int) ∧ (0 ≤ (4 : Int) ∧ (4 : Int) < ((8 : Nat) : Int)) ∧ canStore w (x5.add ((4 : Int).toNat)) ∧ wlet (w.setCell (x5.add ((4 : Int).toNat)) (.int .u8 (IntKind.wrap .u8 (ishr .u64 x0 32)))) fun w8 => num_Put.p7 K x0 x1 x5 w8
abbrev num_Put.p5 (K : Value → World → Prop) (x0 : Int) (x1 : Int) (x5 : Addr) (w : World) : Prop :=
  0 ≤ (40 : Int) ∧ (0 ≤ (5 : Int) ∧ (5 : Int) < ((8 : Nat) : Int)) ∧ canStore w (x5.add ((5 : Int).toNat)) ∧ wlet (w.setCell (x5.add ((5 : Int).toNat)) (.int .u8 (IntKind.wrap .u8 (ishr .u64 x0 40)))) fun w7 => num_Put.p6 K x0 x1 x5 w7
abbrev num_Put.p4 (K : Value → World → Prop) (x0 : Int) (x1 : Int) (x5 : Addr) (w : World) : Prop :=
  0 ≤ (48 : Int) ∧ (0 ≤ (6 : Int) ∧ (6 : Int) < ((8 : Nat) : Int)) ∧ canStore w (x5.add ((6 : Int).toNat)) ∧ wlet (w.setCell (x5.add ((6 : Int).toNat)) (.int .u8 (IntKind.wrap .u8 (ishr .u64 x0 48)))) fun w6 => num_Put.p5 K x0 x1 x5 w6
abbrev num_Put.p3 (K : Value → World → Prop) (x0 : Int) (x1 : Int) (x5 : Addr) (x9 : Int) (w : World) : Prop :=
  condP (x9 == (8 : Int)) (0 ≤ (56 : Int) ∧ (0 ≤ (7 : Int) ∧ (7 : Int) < ((8 : Nat) : Int)) ∧ canStore w (x5.add ((7 : Int).toNat)) ∧ wlet (w.setCell (x5.add ((7 : Int).toNat)) (.int .u8 (IntKind.wrap .u8 (ishr .u64 x0 56)))) fun w5 => num_Put.p4 K x0 x1 x5 w5) (condP (x9 == (7 : Int)) (num_Put.p4 K x0 x1 x5 w) (condP (x9 == (6 : Int)) (num_Put.p5 K x0 x1 x5 w) (condP (x9 == (5 : Int)) (num_Put.p6 K x0 x1 x5 w) (condP (x9 == (4 : Int)) (num_Put.p7 K x0 x1 x5 w) (condP (x9 == (3 : Int)) (num_Put.p8 K x0 x1 x5 w) (condP (x9 == (2 : Int)) (num_Put.p9 K x0 x1 x5 w) (condP (x9 == (1 : Int)) (num_Put.p10 K x0 x1 x5 w) (num_Put.p11 K x1 x5 w))))))))
abbrev num_Put.p2 (K : Value → World → Prop) (x0 : Int) (x1 : Int) (x5 : Addr) (w : World) : Prop :=
  num_Put.p3 K x0 x1 x5 x1 w
abbrev num_Put.p1 (K : Value → World → Prop) (x0 : Int) (x1 : Int) (x5 : Addr) (w : World) : Prop :=
  CallsE Try.prog 36 #[.int .i64 x1] w (fun v2 w3 => ∃ (n4 : Int), v2 = .int .i64 n4 ∧ num_Put.p2 K x0 n4 x5 w3)
abbrev num_Put.p0 (K : Value → World → Prop) (x0 : Int) (x1 : Int) (w : World) : Prop :=
  wlet (w.alloc (.cells #[.int .u8 0, .int .u8 0, .int .u8 0, .int .u8 0, .int .u8 0, .int .u8 0, .int .u8 0, .int .u8 0] 58)) fun w1 => num_Put.p1 K x0 x1 (⟨w.heap.size, 0, none⟩) w1
abbrev num_Put.F (q0 : Int) (q1 : Int) (K : Value → World → Prop) (w : World) : Prop :=
  num_Put.p0 K q0 q1 w
theorem num_Put.ok {q0 : Int} {q1 : Int} {K : Value → World → Prop} {w : World} (h : num_Put.F q0 q1 K w) :
    CallsE Try.prog 12 #[.int .u64 q0, .int .i64 q1] w K := by
  refine calls_of_J (n := 63) (rs := [.tmp 4]) Try.func12 rfl rfl rfl rfl ?_
  refine J_seq (fun σ w => vI .u64 (σ 0) fun x0 => vI .i64 (σ 1) fun x1 => num_Put.p0 K x0 x1 w) ?_ ?_
  ·
    exact sh_sound _ _ _ _ (Eq.mp (by kernel_rfl) h)
  · intro σ w h
    obtain ⟨x0, e0, h⟩ := vI_elim h
    obtain ⟨x1, e1, h⟩ := vI_elim h
    refine J.sub ?_ (((Sub.base _).upd e0).upd e1)
    clear e0 e1
    refine J_seq (fun σ w => vI .u64 (σ 0) fun x0 => vI .i64 (σ 1) fun x1 => vPa (σ 5) fun x5 => num_Put.p1 K x0 x1 x5 w) ?_ ?_
    ·
      exact sh_sound _ _ _ _ (Eq.mp (by kernel_rfl) h)
    · intro σ w h
      obtain ⟨x0, e0, h⟩ := vI_elim h
      obtain ⟨x1, e1, h⟩ := vI_elim h
      obtain ⟨x5, e5, h⟩ := vPa_elim h
      refine J.sub ?_ ((((Sub.base _).upd e0).upd e1).upd e5)
      clear e0 e1 e5
      refine J_seq (fun σ w => vI .u64 (σ 0) fun x0 => vI .i64 (σ 1) fun x1 => vPa (σ 5) fun x5 => num_Put.p2 K x0 x1 x5 w) ?_ ?_
      ·
        exact sh_sound _ _ _ _ (Eq.mp (by kernel_rfl) h)
      · intro σ w h
        obtain ⟨x0, e0, h⟩ := vI_elim h
        obtain ⟨x1, e1, h⟩ := vI_elim h
        obtain ⟨x5, e5, h⟩ := vPa_elim h
        refine J.sub ?_ ((((Sub.base _).upd e0).upd e1).upd e5)
        clear e0 e1 e5
        refine J_seq (fun σ w => vI .i64 (σ 1) fun x1 => vPa (σ 5) fun x5 => num_Put.p11 K x1 x5 w) ?_ ?_
        ·
          refine J_seq (fun σ w => vI .u64 (σ 0) fun x0 => vI .i64 (σ 1) fun x1 => vPa (σ 5) fun x5 => vI .i64 (σ 9) fun x9 => num_Put.p3 K x0 x1 x5 x9 w) ?_ ?_
          ·
            exact sh_sound _ _ _ _ (Eq.mp (by kernel_rfl) h)
          · intro σ w h
            obtain ⟨x0, e0, h⟩ := vI_elim h
            obtain ⟨x1, e1, h⟩ := vI_elim h
            obtain ⟨x5, e5, h⟩ := vPa_elim h
            obtain ⟨x9, e9, h⟩ := vI_elim h
            refine J.sub ?_ (((((Sub.base _).upd e0).upd e1).upd e5).upd e9)
            clear e0 e1 e5 e9
            refine J_block ?_
            refine J_seq (fun σ w => vI .u64 (σ 0) fun x0 => vI .i64 (σ 1) fun x1 => vPa (σ 5) fun x5 => num_Put.p10 K x0 x1 x5 w) ?_ ?_
            ·
              refine J_block ?_
              refine J_seq (fun σ w => vI .u64 (σ 0) fun x0 => vI .i64 (σ 1) fun x1 => vPa (σ 5) fun x5 => num_Put.p9 K x0 x1 x5 w) ?_ ?_
              ·
                refine J_block ?_
                refine J_seq (fun σ w => vI .u64 (σ 0) fun x0 => vI .i64 (σ 1) fun x1 => vPa (σ 5) fun x5 => num_Put.p8 K x0 x1 x5 w) ?_ ?_
                ·
                  refine J_block ?_
                  refine J_seq (fun σ w => vI .u64 (σ 0) fun x0 => vI .i64 (σ 1) fun x1 => vPa (σ 5) fun x5 => num_Put.p7 K x0 x1 x5 w) ?_ ?_
                  ·
                    refine J_block ?_
                    refine J_seq (fun σ w => vI .u64 (σ 0) fun x0 => vI .i64 (σ 1) fun x1 => vPa (σ 5) fun x5 => num_Put.p6 K x0 x1 x5 w) ?_ ?_
                    ·
                      refine J_block ?_
                      refine J_seq (fun σ w => vI .u64 (σ 0) fun x0 => vI .i64 (σ 1) fun x1 => vPa (σ 5) fun x5 => num_Put.p5 K x0 x1 x5 w) ?_ ?_
                      ·
                        refine J_block ?_
                        refine J_seq (fun σ w => vI .u64 (σ 0) fun x0 => vI .i64 (σ 1) fun x1 => vPa (σ 5) fun x5 => num_Put.p4 K x0 x1 x5 w) ?_ ?_
                        ·
                          exact sh_sound _ _ _ _ (Eq.mp (by kernel_rfl) h)
                        · intro σ w h
                          obtain ⟨x0, e0, h⟩ := vI_elim h
                          obtain ⟨x1, e1, h⟩ := vI_elim h
                          obtain ⟨x5, e5, h⟩ := vPa_elim h
                          refine J.sub ?_ ((((Sub.base _).upd e0).upd e1).upd e5)
                          clear e0 e1 e5
                          exact sh_sound _ _ _ _ (Eq.mp (by kernel_rfl) h)
                      · intro σ w h
                        obtain ⟨x0, e0, h⟩ := vI_elim h
                        obtain ⟨x1, e1, h⟩ := vI_elim h
                        obtain ⟨x5, e5, h⟩ := vPa_elim h
                        refine J.sub ?_ ((((Sub.base _).upd e0).upd e1).upd e5)
                        clear e0 e1 e5
                        exact sh_sound _ _ _ _ (Eq.mp (by kernel_rfl) h)
                    · intro σ w h
                      obtain ⟨x0, e0, h⟩ := vI_elim h
                      obtain ⟨x1, e1, h⟩ := vI_elim h
                      obtain ⟨x5, e5, h⟩ := vPa_elim h
                      refine J.sub ?_ ((((Sub.base _).upd e0).upd e1).upd e5)
                      clear e0 e1 e5
                      exact sh_sound _ _ _ _ (Eq.mp (by kernel_rfl) h)
                  · intro σ w h
                    obtain ⟨x0, e0, h⟩ := vI_elim h
                    obtain ⟨x1, e1, h⟩ := vI_elim h
                    obtain ⟨x5, e5, h⟩ := vPa_elim h
                    refine J.sub ?_ ((((Sub.base _).upd e0).upd e1).upd e5)
                    clear e0 e1 e5
                    exact sh_sound _ _ _ _ (Eq.mp (by kernel_rfl) h)
                · intro σ w h
                  obtain ⟨x0, e0, h⟩ := vI_elim h
                  obtain ⟨x1, e1, h⟩ := vI_elim h
                  obtain ⟨x5, e5, h⟩ := vPa_elim h
                  refine J.sub ?_ ((((Sub.base _).upd e0).upd e1).upd e5)
                  clear e0 e1 e5
                  exact sh_sound _ _ _ _ (Eq.mp (by kernel_rfl) h)
              · intro σ w h
                obtain ⟨x0, e0, h⟩ := vI_elim h
                obtain ⟨x1, e1, h⟩ := vI_elim h
                obtain ⟨x5, e5, h⟩ := vPa_elim h
                refine J.sub ?_ ((((Sub.base _).upd e0).upd e1).upd e5)
                clear e0 e1 e5
                exact sh_sound _ _ _ _ (Eq.mp (by kernel_rfl) h)
            · intro σ w h
              obtain ⟨x0, e0, h⟩ := vI_elim h
              obtain ⟨x1, e1, h⟩ := vI_elim h
              obtain ⟨x5, e5, h⟩ := vPa_elim h
              refine J.sub ?_ ((((Sub.base _).upd e0).upd e1).upd e5)
              clear e0 e1 e5
              exact sh_sound _ _ _ _ (Eq.mp (by kernel_rfl) h)
        · intro σ w h
          obtain ⟨x1, e1, h⟩ := vI_elim h
          obtain ⟨x5, e5, h⟩ := vPa_elim h
          refine J.sub ?_ (((Sub.base _).upd e1).upd e5)
          clear e1 e5
          exact sh_sound _ _ _ _ (Eq.mp (by kernel_rfl) h)

/-! ### hayloft/hayloftref01.Put: function 13 -/
abbrev ref01_Put.p2 (K : Value → World → Prop) (x5A : Option Addr) (x5n : Nat) (x5c : Nat) (w : World) : Prop :=
  K (.slice x5A x5n x5c) w
abbrev ref01_Put.b0 (L0 : Int → Int → Option Addr → Nat → Nat → World → Prop) (K : Value → World → Prop) (x0 : Int) (x1 : Int) (x5A : Option Addr) (x5n : Nat) (x5c : Nat) (w : World) : Prop :=
  CallsE Try.prog 37 #[.int .i64 x1] w (fun v1 w2 => ∃ (n3 : Int), v1 = .int .i64 n3 ∧ condP (decide (((x5n : Nat) : Int) < n3)) ((256 : Int) ≠ 0 ∧ wlet (w2.alloc (.cells #[.int .u8 (IntKind.wrap .u8 (Int.tmod x0 256))] 5)) fun w4 => SemJ Try.prog (Builtin.append_ #[23, 23] 23 #[.slice x5A x5n x5c, .slice (some ⟨w2.heap.size, 0, none⟩) 1 1]) (fun v5 w6 => ∃ (A7 : Option Addr) (m8 : Nat) (c9 : Nat), v5 = .slice A7 m8 c9 ∧ (256 : Int) ≠ 0 ∧ L0 (IntKind.wrap .u64 (Int.tdiv x0 256)) x1 A7 m8 c9 w6) w4) (ref01_Put.p2 K x5A x5n x5c w2))
def ref01_Put.l0 (K : Value → World → Prop) (k : Nat) : Int → Int → Option Addr → Nat → Nat → World → Prop :=
  Nat.rec (motive := fun _ => Int → Int → Option Addr → Nat → Nat → World → Prop) (fun _ _ _ _ _ _ => False) (fun _ ih => ref01_Put.b0 ih K) k
theorem ref01_Put.l0_succ (K : Value → World → Prop) (k : Nat) (x0 : Int) (x1 : Int) (x5A : Option Addr) (x5n : Nat) (x5c : Nat) (w : World) : ref01_Put.l0 K (k + 1) x0 x1 x5A x5n x5c w = ref01_Put.b0 (ref01_Put.l0 K k) K x0 x1 x5A x5n x5c w := rfl
abbrev ref01_Put.p1 (K : Value → World → Prop) (x0 : Int) (x1 : Int) (x5A : Option Addr) (x5n : Nat) (x5c : Nat) (w : World) : Prop :=
  ∃ k, ref01_Put.l0 K k x0 x1 x5A x5n x5c w
abbrev ref01_Put.p0 (K : Value → World → Prop) (x0 : Int) (x1 : Int) (w : World) : Prop :=
  ref01_Put.p1 K x0 x1 none 0 0 w
abbrev ref01_Put.F (q0 : Int) (q1 : Int) (K : Value → World → Prop) (w : World) : Prop :=
  ref01_Put.p0 K q0 q1 w
theorem ref01_Put.ok {q0 : Int} {q1 : Int} {K : Value → World → Prop} {w : World} (h : ref01_Put.F q0 q1 K w) :
    CallsE Try.prog 13 #[.int .u64 q0, .int .i64 q1] w K := by
  refine calls_of_J (n := 20) (rs := [.tmp 4]) Try.func13 rfl rfl rfl rfl ?_
  refine J_seq (fun σ w => vI .u64 (σ 0) fun x0 => vI .i64 (σ 1) fun x1 => ref01_Put.p0 K x0 x1 w) ?_ ?_
  ·
    exact sh_sound _ _ _ _ (Eq.mp (by kernel_rfl) h)
  · intro σ w h
    obtain ⟨x0, e0, h⟩ := vI_elim h
    obtain ⟨x1, e1, h⟩ := vI_elim h
    refine J.sub ?_ (((Sub.base _).upd e0).upd e1)
    clear e0 e1
    refine J_seq (fun σ w => vI .u64 (σ 0) fun x0 => vI .i64 (σ 1) fun x1 => vS (σ 5) fun x5A x5n x5c => ref01_Put.p1 K x0 x1 x5A x5n x5c w) ?_ ?_
    ·
      exact sh_sound _ _ _ _ (Eq.mp (by kernel_rfl) h)
    · intro σ w h
      obtain ⟨x0, e0, h⟩ := vI_elim h
      obtain ⟨x1, e1, h⟩ := vI_elim h
      obtain ⟨x5A, x5n, x5c, e5, h⟩ := vS_elim h
      refine J.sub ?_ ((((Sub.base _).upd e0).upd e1).upd e5)
      clear e0 e1 e5
      refine J_seq (fun σ w => vS (σ 5) fun x5A x5n x5c => ref01_Put.p2 K x5A x5n x5c w) ?_ ?_
      ·
        refine J_block ?_
        refine J_loop (fun k σ w => vI .u64 (σ 0) fun x0 => vI .i64 (σ 1) fun x1 => vS (σ 5) fun x5A x5n x5c => ref01_Put.l0 K k x0 x1 x5A x5n x5c w) (Eq.mp (by kernel_rfl) h) ?_ ?_
        · intro σ w h
          obtain ⟨x0, e0, h⟩ := vI_elim h
          obtain ⟨x1, e1, h⟩ := vI_elim h
          obtain ⟨x5A, x5n, x5c, e5, h⟩ := vS_elim h
          exact h
        · intro k0 σ w h
          obtain ⟨x0, e0, h⟩ := vI_elim h
          obtain ⟨x1, e1, h⟩ := vI_elim h
          obtain ⟨x5A, x5n, x5c, e5, h⟩ := vS_elim h
          refine J.sub ?_ ((((Sub.base _).upd e0).upd e1).upd e5)
          clear e0 e1 e5
          exact sh_sound _ _ _ _ (Eq.mp (by kernel_rfl) h)
      · intro σ w h
        obtain ⟨x5A, x5n, x5c, e5, h⟩ := vS_elim h
        refine J.sub ?_ ((Sub.base _).upd e5)
        clear e5
        exact sh_sound _ _ _ _ (Eq.mp (by kernel_rfl) h)

/-! ### hayloft/num.Get: function 14 -/
abbrev num_Get.p4 (L0 : Option Addr → Nat → Nat → Int → Int → World → Prop) (K : Value → World → Prop) (x0A : Option Addr) (x0n : Nat) (x0c : Nat) (x3 : Int) (x4 : Int) (w : World) : Prop :=
  (0 ≤ x4 ∧ x4 < ((x0n : Nat) : Int)) ∧ ∃ (a1 : Addr), x0A = some a1 ∧ ∃ (n2 : Int), w.cell? (a1.add x4.toNat) = some (.int .u8 n2) ∧ 0 ≤ (IntKind.wrap .i64 ((8 : Int) * x4)) ∧ L0 x0A x0n x0c (ibits .or .u64 x3 (ishl .u64 (IntKind.wrap .u64 n2) (IntKind.wrap .i64 ((8 : Int) * x4)))) (IntKind.wrap .i64 (x4 + (1 : Int))) w
abbrev num_Get.p5 (K : Value → World → Prop) (x3 : Int) (w : World) : Prop :=
  K (.int .u64 x3) w
abbrev num_Get.p3 (L0 : Option Addr → Nat → Nat → Int → Int → World → Prop) (K : Value → World → Prop) (x0A : Option Addr) (x0n : Nat) (x0c : Nat) (x3 : Int) (x4 : Int) (x12 : Bool) (w : World) : Prop :=
  condP x12 (num_Get.p4 L0 K x0A x0n x0c x3 x4 w) (num_Get.p5 K x3 w)
abbrev num_Get.b0 (L0 : Option Addr → Nat → Nat → Int → Int → World → Prop) (K : Value → World → Prop) (x0A : Option Addr) (x0n : Nat) (x0c : Nat) (x3 : Int) (x4 : Int) (w : World) : Prop :=
  condP (decide (x4 < ((x0n : Nat) : Int))) (num_Get.p3 L0 K x0A x0n x0c x3 x4 (decide (x4 < (8 : Int))) w) (num_Get.p3 L0 K x0A x0n x0c x3 x4 false w)
def num_Get.l0 (K : Value → World → Prop) (k : Nat) : Option Addr → Nat → Nat → Int → Int → World → Prop :=
  Nat.rec (motive := fun _ => Option Addr → Nat → Nat → Int → Int → World → Prop) (fun _ _ _ _ _ _ => False) (fun _ ih => num_Get.b0 ih K) k
theorem num_Get.l0_succ (K : Value → World → Prop) (k : Nat) (x0A : Option Addr) (x0n : Nat) (x0c : Nat) (x3 : Int) (x4 : Int) (w : World) : num_Get.l0 K (k + 1) x0A x0n x0c x3 x4 w = num_Get.b0 (num_Get.l0 K k) K x0A x0n x0c x3 x4 w := rfl
abbrev num_Get.p2 (K : Value → World → Prop) (x0A : Option Addr) (x0n : Nat) (x0c : Nat) (x3 : Int) (x4 : Int) (w : World) : Prop :=
  ∃ k, num_Get.l0 K k x0A x0n x0c x3 x4 w
abbrev num_Get.p1 (K : Value → World → Prop) (x0A : Option Addr) (x0n : Nat) (x0c : Nat) (x3 : Int) (w : World) : Prop :=
  num_Get.p2 K x0A x0n x0c x3 0 w
abbrev num_Get.p0 (K : Value → World → Prop) (x0A : Option Addr) (x0n : Nat) (x0c : Nat) (w : World) : Prop :=
  num_Get.p1 K x0A x0n x0c 0 w
abbrev num_Get.F (q0A : Option Addr) (q0n : Nat) (q0c : Nat) (K : Value → World → Prop) (w : World) : Prop :=
  num_Get.p0 K q0A q0n q0c w
theorem num_Get.ok {q0A : Option Addr} {q0n : Nat} {q0c : Nat} {K : Value → World → Prop} {w : World} (h : num_Get.F q0A q0n q0c K w) :
    CallsE Try.prog 14 #[.slice q0A q0n q0c] w K := by
  refine calls_of_J (n := 26) (rs := [.tmp 2]) Try.func14 rfl rfl rfl rfl ?_
  refine J_seq (fun σ w => vS (σ 0) fun x0A x0n x0c => num_Get.p0 K x0A x0n x0c w) ?_ ?_
  ·
    exact sh_sound _ _ _ _ (Eq.mp (by kernel_rfl) h)
  · intro σ w h
    obtain ⟨x0A, x0n, x0c, e0, h⟩ := vS_elim h
    refine J.sub ?_ ((Sub.base _).upd e0)
    clear e0
    refine J_seq (fun σ w => vS (σ 0) fun x0A x0n x0c => vI .u64 (σ 3) fun x3 => num_Get.p1 K x0A x0n x0c x3 w) ?_ ?_
    ·
      exact sh_sound _ _ _ _ (Eq.mp (by kernel_rfl) h)
    · intro σ w h
      obtain ⟨x0A, x0n, x0c, e0, h⟩ := vS_elim h
      obtain ⟨x3, e3, h⟩ := vI_elim h
      refine J.sub ?_ (((Sub.base _).upd e0).upd e3)
      clear e0 e3
      refine J_seq (fun σ w => vI .u64 (σ 3) fun x3 => num_Get.p5 K x3 w) ?_ ?_
      ·
        refine J_seq (fun σ w => vS (σ 0) fun x0A x0n x0c => vI .u64 (σ 3) fun x3 => vI .i64 (σ 4) fun x4 => num_Get.p2 K x0A x0n x0c x3 x4 w) ?_ ?_
        ·
          exact sh_sound _ _ _ _ (Eq.mp (by kernel_rfl) h)
        · intro σ w h
          obtain ⟨x0A, x0n, x0c, e0, h⟩ := vS_elim h
          obtain ⟨x3, e3, h⟩ := vI_elim h
          obtain ⟨x4, e4, h⟩ := vI_elim h
          refine J.sub ?_ ((((Sub.base _).upd e0).upd e3).upd e4)
          clear e0 e3 e4
          refine J_block ?_
          refine J_loop (fun k σ w => vS (σ 0) fun x0A x0n x0c => vI .u64 (σ 3) fun x3 => vI .i64 (σ 4) fun x4 => num_Get.l0 K k x0A x0n x0c x3 x4 w) (Eq.mp (by kernel_rfl) h) ?_ ?_
          · intro σ w h
            obtain ⟨x0A, x0n, x0c, e0, h⟩ := vS_elim h
            obtain ⟨x3, e3, h⟩ := vI_elim h
            obtain ⟨x4, e4, h⟩ := vI_elim h
            exact h
          · intro k0 σ w h
            obtain ⟨x0A, x0n, x0c, e0, h⟩ := vS_elim h
            obtain ⟨x3, e3, h⟩ := vI_elim h
            obtain ⟨x4, e4, h⟩ := vI_elim h
            refine J.sub ?_ ((((Sub.base _).upd e0).upd e3).upd e4)
            clear e0 e3 e4
            refine J_seq (fun σ w => vS (σ 0) fun x0A x0n x0c => vI .u64 (σ 3) fun x3 => vI .i64 (σ 4) fun x4 => num_Get.p4 (num_Get.l0 K k0) K x0A x0n x0c x3 x4 w) ?_ ?_
            ·
              refine J_seq (fun σ w => vS (σ 0) fun x0A x0n x0c => vI .u64 (σ 3) fun x3 => vI .i64 (σ 4) fun x4 => vB (σ 12) fun x12 => num_Get.p3 (num_Get.l0 K k0) K x0A x0n x0c x3 x4 x12 w) ?_ ?_
              ·
                exact sh_sound _ _ _ _ (Eq.mp (by kernel_rfl) h)
              · intro σ w h
                obtain ⟨x0A, x0n, x0c, e0, h⟩ := vS_elim h
                obtain ⟨x3, e3, h⟩ := vI_elim h
                obtain ⟨x4, e4, h⟩ := vI_elim h
                obtain ⟨x12, e12, h⟩ := vB_elim h
                refine J.sub ?_ (((((Sub.base _).upd e0).upd e3).upd e4).upd e12)
                clear e0 e3 e4 e12
                exact sh_sound _ _ _ _ (Eq.mp (by kernel_rfl) h)
            · intro σ w h
              obtain ⟨x0A, x0n, x0c, e0, h⟩ := vS_elim h
              obtain ⟨x3, e3, h⟩ := vI_elim h
              obtain ⟨x4, e4, h⟩ := vI_elim h
              refine J.sub ?_ ((((Sub.base _).upd e0).upd e3).upd e4)
              clear e0 e3 e4
              exact sh_sound _ _ _ _ (Eq.mp (by kernel_rfl) h)
      · intro σ w h
        obtain ⟨x3, e3, h⟩ := vI_elim h
        refine J.sub ?_ ((Sub.base _).upd e3)
        clear e3
        exact sh_sound _ _ _ _ (Eq.mp (by kernel_rfl) h)

/-! ### hayloft/hayloftref01.Get: function 15 -/
abbrev ref01_Get.p3 (K : Value → World → Prop) (x3 : Int) (w : World) : Prop :=
  K (.int .u64 x3) w
abbrev ref01_Get.b0 (L0 : Option Addr → Nat → Nat → Int → Int → World → Prop) (K : Value → World → Prop) (x0A : Option Addr) (x0n : Nat) (x0c : Nat) (x3 : Int) (x4 : Int) (w : World) : Prop :=
  condP (decide ((0 : Int) ≤ x4)) ((0 ≤ x4 ∧ x4 < ((x0n : Nat) : Int)) ∧ ∃ (a1 : Addr), x0A = some a1 ∧ ∃ (n2 : Int), w.cell? (a1.add x4.toNat) = some (.int .u8 n2) ∧ L0 x0A x0n x0c (IntKind.wrap .u64 ((IntKind.wrap .u64 (x3 * (256 : Int))) + (IntKind.wrap .u64 n2))) (IntKind.wrap .i64 (x4 - (1 : Int))) w) (ref01_Get.p3 K x3 w)
def ref01_Get.l0 (K : Value → World → Prop) (k : Nat) : Option Addr → Nat → Nat → Int → Int → World → Prop :=
  Nat.rec (motive := fun _ => Option Addr → Nat → Nat → Int → Int → World → Prop) (fun _ _ _ _ _ _ => False) (fun _ ih => ref01_Get.b0 ih K) k
theorem ref01_Get.l0_succ (K : Value → World → Prop) (k : Nat) (x0A : Option Addr) (x0n : Nat) (x0c : Nat) (x3 : Int) (x4 : Int) (w : World) : ref01_Get.l0 K (k + 1) x0A x0n x0c x3 x4 w = ref01_Get.b0 (ref01_Get.l0 K k) K x0A x0n x0c x3 x4 w := rfl
abbrev ref01_Get.p2 (K : Value → World → Prop) (x0A : Option Addr) (x0n : Nat) (x0c : Nat) (x3 : Int) (x4 : Int) (w : World) : Prop :=
  ∃ k, ref01_Get.l0 K k x0A x0n x0c x3 x4 w
abbrev ref01_Get.p1 (K : Value → World → Prop) (x0A : Option Addr) (x0n : Nat) (x0c : Nat) (x3 : Int) (w : World) : Prop :=
  ref01_Get.p2 K x0A x0n x0c x3 (IntKind.wrap .i64 ((imin ((x0n : Nat) : Int) 8) - (1 : Int))) w
abbrev ref01_Get.p0 (K : Value → World → Prop) (x0A : Option Addr) (x0n : Nat) (x0c : Nat) (w : World) : Prop :=
  ref01_Get.p1 K x0A x0n x0c 0 w
abbrev ref01_Get.F (q0A : Option Addr) (q0n : Nat) (q0c : Nat) (K : Value → World → Prop) (w : World) : Prop :=
  ref01_Get.p0 K q0A q0n q0c w
theorem ref01_Get.ok {q0A : Option Addr} {q0n : Nat} {q0c : Nat} {K : Value → World → Prop} {w : World} (h : ref01_Get.F q0A q0n q0c K w) :
    CallsE Try.prog 15 #[.slice q0A q0n q0c] w K := by
  refine calls_of_J (n := 22) (rs := [.tmp 2]) Try.func15 rfl rfl rfl rfl ?_
  refine J_seq (fun σ w => vS (σ 0) fun x0A x0n x0c => ref01_Get.p0 K x0A x0n x0c w) ?_ ?_
  ·
    exact sh_sound _ _ _ _ (Eq.mp (by kernel_rfl) h)
  · intro σ w h
    obtain ⟨x0A, x0n, x0c, e0, h⟩ := vS_elim h
    refine J.sub ?_ ((Sub.base _).upd e0)
    clear e0
    refine J_seq (fun σ w => vS (σ 0) fun x0A x0n x0c => vI .u64 (σ 3) fun x3 => ref01_Get.p1 K x0A x0n x0c x3 w) ?_ ?_
    ·
      exact sh_sound _ _ _ _ (Eq.mp (by kernel_rfl) h)
    · intro σ w h
      obtain ⟨x0A, x0n, x0c, e0, h⟩ := vS_elim h
      obtain ⟨x3, e3, h⟩ := vI_elim h
      refine J.sub ?_ (((Sub.base _).upd e0).upd e3)
      clear e0 e3
      refine J_seq (fun σ w => vI .u64 (σ 3) fun x3 => ref01_Get.p3 K x3 w) ?_ ?_
      ·
        refine J_seq (fun σ w => vS (σ 0) fun x0A x0n x0c => vI .u64 (σ 3) fun x3 => vI .i64 (σ 4) fun x4 => ref01_Get.p2 K x0A x0n x0c x3 x4 w) ?_ ?_
        ·
          exact sh_sound _ _ _ _ (Eq.mp (by kernel_rfl) h)
        · intro σ w h
          obtain ⟨x0A, x0n, x0c, e0, h⟩ := vS_elim h
          obtain ⟨x3, e3, h⟩ := vI_elim h
          obtain ⟨x4, e4, h⟩ := vI_elim h
          refine J.sub ?_ ((((Sub.base _).upd e0).upd e3).upd e4)
          clear e0 e3 e4
          refine J_block ?_
          refine J_loop (fun k σ w => vS (σ 0) fun x0A x0n x0c => vI .u64 (σ 3) fun x3 => vI .i64 (σ 4) fun x4 => ref01_Get.l0 K k x0A x0n x0c x3 x4 w) (Eq.mp (by kernel_rfl) h) ?_ ?_
          · intro σ w h
            obtain ⟨x0A, x0n, x0c, e0, h⟩ := vS_elim h
            obtain ⟨x3, e3, h⟩ := vI_elim h
            obtain ⟨x4, e4, h⟩ := vI_elim h
            exact h
          · intro k0 σ w h
            obtain ⟨x0A, x0n, x0c, e0, h⟩ := vS_elim h
            obtain ⟨x3, e3, h⟩ := vI_elim h
            obtain ⟨x4, e4, h⟩ := vI_elim h
            refine J.sub ?_ ((((Sub.base _).upd e0).upd e3).upd e4)
            clear e0 e3 e4
            exact sh_sound _ _ _ _ (Eq.mp (by kernel_rfl) h)
      · intro σ w h
        obtain ⟨x3, e3, h⟩ := vI_elim h
        refine J.sub ?_ ((Sub.base _).upd e3)
        clear e3
        exact sh_sound _ _ _ _ (Eq.mp (by kernel_rfl) h)

/-! ### hayloft/hayloftref01.Var: function 16 -/
abbrev ref01_Var.p2 (K : Value → World → Prop) (x0 : Int) (x3A : Option Addr) (x3n : Nat) (x3c : Nat) (w : World) : Prop :=
  wlet (w.alloc (.cells #[.int .u8 (IntKind.wrap .u8 x0)] 5)) fun w7 => SemJ Try.prog (Builtin.append_ #[23, 23] 23 #[.slice x3A x3n x3c, .slice (some ⟨w.heap.size, 0, none⟩) 1 1]) (fun v8 w9 => ∃ (A10 : Option Addr) (m11 : Nat) (c12 : Nat), v8 = .slice A10 m11 c12 ∧ K (.slice A10 m11 c12) w9) w7
abbrev ref01_Var.b0 (L0 : Int → Option Addr → Nat → Nat → World → Prop) (K : Value → World → Prop) (x0 : Int) (x3A : Option Addr) (x3n : Nat) (x3c : Nat) (w : World) : Prop :=
  condP (decide ((127 : Int) < x0)) ((128 : Int) ≠ 0 ∧ wlet (w.alloc (.cells #[.int .u8 (IntKind.wrap .u8 ((IntKind.wrap .u8 (Int.tmod x0 128)) + (128 : Int)))] 5)) fun w1 => SemJ Try.prog (Builtin.append_ #[23, 23] 23 #[.slice x3A x3n x3c, .slice (some ⟨w.heap.size, 0, none⟩) 1 1]) (fun v2 w3 => ∃ (A4 : Option Addr) (m5 : Nat) (c6 : Nat), v2 = .slice A4 m5 c6 ∧ (128 : Int) ≠ 0 ∧ L0 (IntKind.wrap .u64 (Int.tdiv x0 128)) A4 m5 c6 w3) w1) (ref01_Var.p2 K x0 x3A x3n x3c w)
def ref01_Var.l0 (K : Value → World → Prop) (k : Nat) : Int → Option Addr → Nat → Nat → World → Prop :=
  Nat.rec (motive := fun _ => Int → Option Addr → Nat → Nat → World → Prop) (fun _ _ _ _ _ => False) (fun _ ih => ref01_Var.b0 ih K) k
theorem ref01_Var.l0_succ (K : Value → World → Prop) (k : Nat) (x0 : Int) (x3A : Option Addr) (x3n : Nat) (x3c : Nat) (w : World) : ref01_Var.l0 K (k + 1) x0 x3A x3n x3c w = ref01_Var.b0 (ref01_Var.l0 K k) K x0 x3A x3n x3c w := rfl
abbrev ref01_Var.p1 (K : Value → World → Prop) (x0 : Int) (x3A : Option Addr) (x3n : Nat) (x3c : Nat) (w : World) : Prop :=
  ∃ k, ref01_Var.l0 K k x0 x3A x3n x3c w
abbrev ref01_Var.p0 (K : Value → World → Prop) (x0 : Int) (w : World) : Prop :=
  ref01_Var.p1 K x0 none 0 0 w
abbrev ref01_Var.F (q0 : Int) (K : Value → World → Prop) (w : World) : Prop :=
  ref01_Var.p0 K q0 w
theorem ref01_Var.ok {q0 : Int} {K : Value → World → Prop} {w : World} (h : ref01_Var.F q0 K w) :
    CallsE Try.prog 16 #[.int .u64 q0] w K := by
  refine calls_of_J (n := 20) (rs := [.tmp 2]) Try.func16 rfl rfl rfl rfl ?_
  refine J_seq (fun σ w => vI .u64 (σ 0) fun x0 => ref01_Var.p0 K x0 w) ?_ ?_
  ·
    exact sh_sound _ _ _ _ (Eq.mp (by kernel_rfl) h)
  · intro σ w h
    obtain ⟨x0, e0, h⟩ := vI_elim h
    refine J.sub ?_ ((Sub.base _).upd e0)
    clear e0
    refine J_seq (fun σ w => vI .u64 (σ 0) fun x0 => vS (σ 3) fun x3A x3n x3c => ref01_Var.p1 K x0 x3A x3n x3c w) ?_ ?_
    ·
      exact sh_sound _ _ _ _ (Eq.mp (by kernel_rfl) h)
    · intro σ w h
      obtain ⟨x0, e0, h⟩ := vI_elim h
      obtain ⟨x3A, x3n, x3c, e3, h⟩ := vS_elim h
      refine J.sub ?_ (((Sub.base _).upd e0).upd e3)
      clear e0 e3
      refine J_seq (fun σ w => vI .u64 (σ 0) fun x0 => vS (σ 3) fun x3A x3n x3c => ref01_Var.p2 K x0 x3A x3n x3c w) ?_ ?_
      ·
        refine J_block ?_
        refine J_loop (fun k σ w => vI .u64 (σ 0) fun x0 => vS (σ 3) fun x3A x3n x3c => ref01_Var.l0 K k x0 x3A x3n x3c w) (Eq.mp (by kernel_rfl) h) ?_ ?_
        · intro σ w h
          obtain ⟨x0, e0, h⟩ := vI_elim h
          obtain ⟨x3A, x3n, x3c, e3, h⟩ := vS_elim h
          exact h
        · intro k0 σ w h
          obtain ⟨x0, e0, h⟩ := vI_elim h
          obtain ⟨x3A, x3n, x3c, e3, h⟩ := vS_elim h
          refine J.sub ?_ (((Sub.base _).upd e0).upd e3)
          clear e0 e3
          exact sh_sound _ _ _ _ (Eq.mp (by kernel_rfl) h)
      · intro σ w h
        obtain ⟨x0, e0, h⟩ := vI_elim h
        obtain ⟨x3A, x3n, x3c, e3, h⟩ := vS_elim h
        refine J.sub ?_ (((Sub.base _).upd e0).upd e3)
        clear e0 e3
        exact sh_sound _ _ _ _ (Eq.mp (by kernel_rfl) h)

/-! ### hayloft/num.Var: function 17 -/
abbrev num_Var.p2 (K : Value → World → Prop) (x0 : Int) (x3A : Option Addr) (x3n : Nat) (x3c : Nat) (w : World) : Prop :=
  wlet (w.alloc (.cells #[.int .u8 (IntKind.wrap .u8 x0)] 5)) fun w7 => SemJ Try.prog (Builtin.append_ #[23, 23] 23 #[.slice x3A x3n x3c, .slice (some ⟨w.heap.size, 0, none⟩) 1 1]) (fun v8 w9 => ∃ (A10 : Option Addr) (m11 : Nat) (c12 : Nat), v8 = .slice A10 m11 c12 ∧ K (.slice A10 m11 c12) w9) w7
abbrev num_Var.b0 (L0 : Int → Option Addr → Nat → Nat → World → Prop) (K : Value → World → Prop) (x0 : Int) (x3A : Option Addr) (x3n : Nat) (x3c : Nat) (w : World) : Prop :=
  condP (decide ((128 : Int) ≤ x0)) (wlet (w.alloc (.cells #[.int .u8 (ibits .or .u8 (IntKind.wrap .u8 x0) 128)] 5)) fun w1 => SemJ Try.prog (Builtin.append_ #[23, 23] 23 #[.slice x3A x3n x3c, .slice (some ⟨w.heap.size, 0, none⟩) 1 1]) (fun v2 w3 => ∃ (A4 : Option Addr) (m5 : Nat) (c6 : Nat), v2 = .slice A4 m5 c6 ∧ 0 ≤ (7 : Int) ∧ L0 (ishr .u64 x0 7) A4 m5 c6 w3) w1) (num_Var.p2 K x0 x3A x3n x3c w)
def num_Var.l0 (K : Value → World → Prop) (k : Nat) : Int → Option Addr → Nat → Nat → World → Prop :=
  Nat.rec (motive := fun _ => Int → Option Addr → Nat → Nat → World → Prop) (fun _ _ _ _ _ => False) (fun _ ih => num_Var.b0 ih K) k
theorem num_Var.l0_succ (K : Value → World → Prop) (k : Nat) (x0 : Int) (x3A : Option Addr) (x3n : Nat) (x3c : Nat) (w : World) : num_Var.l0 K (k + 1) x0 x3A x3n x3c w = num_Var.b0 (num_Var.l0 K k) K x0 x3A x3n x3c w := rfl
abbrev num_Var.p1 (K : Value → World → Prop) (x0 : Int) (x3A : Option Addr) (x3n : Nat) (x3c : Nat) (w : World) : Prop :=
  ∃ k, num_Var.l0 K k x0 x3A x3n x3c w
abbrev num_Var.p0 (K : Value → World → Prop) (x0 : Int) (w : World) : Prop :=
  num_Var.p1 K x0 none 0 0 w
abbrev num_Var.F (q0 : Int) (K : Value → World → Prop) (w : World) : Prop :=
  num_Var.p0 K q0 w
theorem num_Var.ok {q0 : Int} {K : Value → World → Prop} {w : World} (h : num_Var.F q0 K w) :
    CallsE Try.prog 17 #[.int .u64 q0] w K := by
  refine calls_of_J (n := 19) (rs := [.tmp 2]) Try.func17 rfl rfl rfl rfl ?_
  refine J_seq (fun σ w => vI .u64 (σ 0) fun x0 => num_Var.p0 K x0 w) ?_ ?_
  ·
    exact sh_sound _ _ _ _ (Eq.mp (by kernel_rfl) h)
  · intro σ w h
    obtain ⟨x0, e0, h⟩ := vI_elim h
    refine J.sub ?_ ((Sub.base _).upd e0)
    clear e0
    refine J_seq (fun σ w => vI .u64 (σ 0) fun x0 => vS (σ 3) fun x3A x3n x3c => num_Var.p1 K x0 x3A x3n x3c w) ?_ ?_
    ·
      exact sh_sound _ _ _ _ (Eq.mp (by kernel_rfl) h)
    · intro σ w h
      obtain ⟨x0, e0, h⟩ := vI_elim h
      obtain ⟨x3A, x3n, x3c, e3, h⟩ := vS_elim h
      refine J.sub ?_ (((Sub.base _).upd e0).upd e3)
      clear e0 e3
      refine J_seq (fun σ w => vI .u64 (σ 0) fun x0 => vS (σ 3) fun x3A x3n x3c => num_Var.p2 K x0 x3A x3n x3c w) ?_ ?_
      ·
        refine J_block ?_
        refine J_loop (fun k σ w => vI .u64 (σ 0) fun x0 => vS (σ 3) fun x3A x3n x3c => num_Var.l0 K k x0 x3A x3n x3c w) (Eq.mp (by kernel_rfl) h) ?_ ?_
        · intro σ w h
          obtain ⟨x0, e0, h⟩ := vI_elim h
          obtain ⟨x3A, x3n, x3c, e3, h⟩ := vS_elim h
          exact h
        · intro k0 σ w h
          obtain ⟨x0, e0, h⟩ := vI_elim h
          obtain ⟨x3A, x3n, x3c, e3, h⟩ := vS_elim h
          refine J.sub ?_ (((Sub.base _).upd e0).upd e3)
          clear e0 e3
          exact sh_sound _ _ _ _ (Eq.mp (by kernel_rfl) h)
      · intro σ w h
        obtain ⟨x0, e0, h⟩ := vI_elim h
        obtain ⟨x3A, x3n, x3c, e3, h⟩ := vS_elim h
        refine J.sub ?_ (((Sub.base _).upd e0).upd e3)
        clear e0 e3
        exact sh_sound _ _ _ _ (Eq.mp (by kernel_rfl) h)

/-! ### hayloft/num.Size: function 18 -/
abbrev num_Size.p2 (K : Value → World → Prop) (x3 : Int) (w : World) : Prop :=
  K (.int .i64 x3) w
abbrev num_Size.b0 (L0 : Int → Int → World → Prop) (K : Value → World → Prop) (x0 : Int) (x3 : Int) (w : World) : Prop :=
  condP (decide ((128 : Int) ≤ x0)) (0 ≤ (7 : Int) ∧ L0 (ishr .u64 x0 7) (IntKind.wrap .i64 (x3 + (1 : Int))) w) (num_Size.p2 K x3 w)
def num_Size.l0 (K : Value → World → Prop) (k : Nat) : Int → Int → World → Prop :=
  Nat.rec (motive := fun _ => Int → Int → World → Prop) (fun _ _ _ => False) (fun _ ih => num_Size.b0 ih K) k
theorem num_Size.l0_succ (K : Value → World → Prop) (k : Nat) (x0 : Int) (x3 : Int) (w : World) : num_Size.l0 K (k + 1) x0 x3 w = num_Size.b0 (num_Size.l0 K k) K x0 x3 w := rfl
abbrev num_Size.p1 (K : Value → World → Prop) (x0 : Int) (x3 : Int) (w : World) : Prop :=
  ∃ k, num_Size.l0 K k x0 x3 w
abbrev num_Size.p0 (K : Value → World → Prop) (x0 : Int) (w : World) : Prop :=
  num_Size.p1 K x0 1 w
abbrev num_Size.F (q0 : Int) (K : Value → World → Prop) (w : World) : Prop :=
  num_Size.p0 K q0 w
theorem num_Size.ok {q0 : Int} {K : Value → World → Prop} {w : World} (h : num_Size.F q0 K w) :
    CallsE Try.prog 18 #[.int .u64 q0] w K := by
  refine calls_of_J (n := 11) (rs := [.tmp 2]) Try.func18 rfl rfl rfl rfl ?_
  refine J_seq (fun σ w => vI .u64 (σ 0) fun x0 => num_Size.p0 K x0 w) ?_ ?_
  ·
    exact sh_sound _ _ _ _ (Eq.mp (by kernel_rfl) h)
  · intro σ w h
    obtain ⟨x0, e0, h⟩ := vI_elim h
    refine J.sub ?_ ((Sub.base _).upd e0)
    clear e0
    refine J_seq (fun σ w => vI .u64 (σ 0) fun x0 => vI .i64 (σ 3) fun x3 => num_Size.p1 K x0 x3 w) ?_ ?_
    ·
      exact sh_sound _ _ _ _ (Eq.mp (by kernel_rfl) h)
    · intro σ w h
      obtain ⟨x0, e0, h⟩ := vI_elim h
      obtain ⟨x3, e3, h⟩ := vI_elim h
      refine J.sub ?_ (((Sub.base _).upd e0).upd e3)
      clear e0 e3
      refine J_seq (fun σ w => vI .i64 (σ 3) fun x3 => num_Size.p2 K x3 w) ?_ ?_
      ·
        refine J_block ?_
        refine J_loop (fun k σ w => vI .u64 (σ 0) fun x0 => vI .i64 (σ 3) fun x3 => num_Size.l0 K k x0 x3 w) (Eq.mp (by kernel_rfl) h) ?_ ?_
        · intro σ w h
          obtain ⟨x0, e0, h⟩ := vI_elim h
          obtain ⟨x3, e3, h⟩ := vI_elim h
          exact h
        · intro k0 σ w h
          obtain ⟨x0, e0, h⟩ := vI_elim h
          obtain ⟨x3, e3, h⟩ := vI_elim h
          refine J.sub ?_ (((Sub.base _).upd e0).upd e3)
          clear e0 e3
          exact sh_sound _ _ _ _ (Eq.mp (by kernel_rfl) h)
      · intro σ w h
        obtain ⟨x3, e3, h⟩ := vI_elim h
        refine J.sub ?_ ((Sub.base _).upd e3)
        clear e3
        exact sh_sound _ _ _ _ (Eq.mp (by kernel_rfl) h)

/-! ### hayloft/num.Open: function 19 -/
abbrev num_Open.F (q0A : Option Addr) (q0n : Nat) (q0c : Nat) (K : Value → World → Prop) (w : World) : Prop :=
  (0 ≤ ((q0n : Nat) : Int) ∧ ((q0n : Nat) : Int) ≤ ((q0n : Nat) : Int) ∧ (1 : Int) * ((q0n : Nat) : Int) ≤ 281474976710656 ∧ ((q0n : Nat) : Int) ≤ 9223372036854775807) ∧ wlet (w.alloc (.cells (madeCells #[.int .u8 0] (((q0n : Nat) : Int).toNat * 1)) 5)) fun w1 => SemJ Try.prog (Builtin.copy_ #[23, 23] 3 #[.slice (some ⟨w.heap.size, 0, none⟩) (((q0n : Nat) : Int).toNat) (((q0n : Nat) : Int).toNat), .slice q0A q0n q0c]) (fun v2 w3 => ∃ (n4 : Int), v2 = .int .i64 n4 ∧ wlet (w3.alloc (.cells #[.slice (some ⟨w.heap.size, 0, none⟩) (((q0n : Nat) : Int).toNat) (((q0n : Nat) : Int).toNat), .int .i64 0] 62)) fun w5 => K (.pointer (some (⟨w3.heap.size, 0, none⟩))) w5) w1
theorem num_Open.ok {q0A : Option Addr} {q0n : Nat} {q0c : Nat} {K : Value → World → Prop} {w : World} (h : num_Open.F q0A q0n q0c K w) :
    CallsE Try.prog 19 #[.slice q0A q0n q0c] w K := by
  refine calls_of_J (n := 13) (rs := [.tmp 2]) Try.func19 rfl rfl rfl rfl ?_
  exact sh_sound _ _ _ _ (Eq.mp (by kernel_rfl) h)

/-! ### (*hayloft/num.Reader).Var: function 20 -/
abbrev num_Reader_Var.p10 (L0 : Option Addr → Int → Option Addr → Nat → Nat → Int → Int → World → Prop) (K : Value → World → Prop) (x0 : Option Addr) (x3 : Int) (x18A : Option Addr) (x18n : Nat) (x18c : Nat) (x19 : Int) (x20 : Int) (w : World) : Prop :=
  L0 x0 x3 x18A x18n x18c x19 (IntKind.wrap .i64 (x20 + (1 : Int))) w
abbrev num_Reader_Var.p9 (L0 : Option Addr → Int → Option Addr → Nat → Nat → Int → Int → World → Prop) (K : Value → World → Prop) (x0 : Option Addr) (x3 : Int) (x4 : Int) (x5 : Int) (x18A : Option Addr) (x18n : Nat) (x18c : Nat) (x19 : Int) (x20 : Int) (w : World) : Prop :=
  0 ≤ (IntKind.wrap .i64 ((7 : Int) * x4)) ∧ condP (decide (x5 < (128 : Int))) (∃ (a9 : Addr), x0 = some a9 ∧ ∃ (A10 : Option Addr) (m11 : Nat) (c12 : Nat), w.cell? a9 = some (.slice A10 m11 c12) ∧ (0 ≤ (IntKind.wrap .i64 (x4 + (1 : Int))) ∧ (IntKind.wrap .i64 (x4 + (1 : Int))) ≤ ((m11 : Nat) : Int)) ∧ ∃ (a13 : Addr), x0 = some a13 ∧ canStore w a13 ∧ wlet (w.setCell a13 (.slice (slA A10 ((IntKind.wrap .i64 (x4 + (1 : Int))).toNat) c12 1) (m11 - ((IntKind.wrap .i64 (x4 + (1 : Int))).toNat)) (c12 - ((IntKind.wrap .i64 (x4 + (1 : Int))).toNat)))) fun w14 => K (.int .u64 (ibits .or .u64 x3 (ishl .u64 (IntKind.wrap .u64 (ibits .and .u8 x5 127)) (IntKind.wrap .i64 ((7 : Int) * x4))))) w14) (num_Reader_Var.p10 L0 K x0 (ibits .or .u64 x3 (ishl .u64 (IntKind.wrap .u64 (ibits .and .u8 x5 127)) (IntKind.wrap .i64 ((7 : Int) * x4)))) x18A x18n x18c x19 x20 w)
abbrev num_Reader_Var.p8 (L0 : Option Addr → Int → Option Addr → Nat → Nat → Int → Int → World → Prop) (K : Value → World → Prop) (x0 : Option Addr) (x3 : Int) (x4 : Int) (x5 : Int) (x18A : Option Addr) (x18n : Nat) (x18c : Nat) (x19 : Int) (x20 : Int) (x38 : Bool) (w : World) : Prop :=
  condP x38 (∃ (a7 : Addr), x0 = some a7 ∧ canStore w (a7.add 1) ∧ wlet (w.setCell (a7.add 1) (.int .i64 4)) fun w8 => K (.int .u64 0) w8) (num_Reader_Var.p9 L0 K x0 x3 x4 x5 x18A x18n x18c x19 x20 w)
abbrev num_Reader_Var.p7 (L0 : Option Addr → Int → Option Addr → Nat → Nat → Int → Int → World → Prop) (K : Value → World → Prop) (x0 : Option Addr) (x3 : Int) (x4 : Int) (x5 : Int) (x18A : Option Addr) (x18n : Nat) (x18c : Nat) (x19 : Int) (x20 : Int) (w : World) : Prop :=
  condP (x4 == (9 : Int)) (condP (decide ((1 : Int) < x5)) (num_Reader_Var.p8 L0 K x0 x3 x4 x5 x18A x18n x18c x19 x20 true w) (condP (decide ((0 : Int) < x4)) (num_Reader_Var.p8 L0 K x0 x3 x4 x5 x18A x18n x18c x19 x20 (x5 == (0 : Int)) w) (num_Reader_Var.p8 L0 K x0 x3 x4 x5 x18A x18n x18c x19 x20 false w))) (condP (decide ((0 : Int) < x4)) (num_Reader_Var.p8 L0 K x0 x3 x4 x5 x18A x18n x18c x19 x20 (x5 == (0 : Int)) w) (num_Reader_Var.p8 L0 K x0 x3 x4 x5 x18A x18n x18c x19 x20 false w))
abbrev num_Reader_Var.p6 (L0 : Option Addr → Int → Option Addr → Nat → Nat → Int → Int → World → Prop) (K : Value → World → Prop) (x0 : Option Addr) (x3 : Int) (x18A : Option Addr) (x18n : Nat) (x18c : Nat) (x19 : Int) (x20 : Int) (w : World) : Prop :=
  (0 ≤ x20 ∧ x20 < ((x18n : Nat) : Int)) ∧ ∃ (a5 : Addr), x18A = some a5 ∧ ∃ (n6 : Int), w.cell? (a5.add x20.toNat) = some (.int .u8 n6) ∧ num_Reader_Var.p7 L0 K x0 x3 x20 n6 x18A x18n x18c x19 x20 w
abbrev num_Reader_Var.p11 (K : Value → World → Prop) (x0 : Option Addr) (w : World) : Prop :=
  ∃ (a15 : Addr), x0 = some a15 ∧ canStore w (a15.add 1) ∧ wlet (w.setCell (a15.add 1) (.int .i64 3)) fun w16 => K (.int .u64 0) w16
abbrev num_Reader_Var.p5 (L0 : Option Addr → Int → Option Addr → Nat → Nat → Int → Int → World → Prop) (K : Value → World → Prop) (x0 : Option Addr) (x3 : Int) (x18A : Option Addr) (x18n : Nat) (x18c : Nat) (x19 : Int) (x20 : Int) (x21 : Bool) (w : World) : Prop :=
  condP x21 (num_Reader_Var.p6 L0 K x0 x3 x18A x18n x18c x19 x20 w) (num_Reader_Var.p11 K x0 w)
abbrev num_Reader_Var.b0 (L0 : Option Addr → Int → Option Addr → Nat → Nat → Int → Int → World → Prop) (K : Value → World → Prop) (x0 : Option Addr) (x3 : Int) (x18A : Option Addr) (x18n : Nat) (x18c : Nat) (x19 : Int) (x20 : Int) (w : World) : Prop :=
  num_Reader_Var.p5 L0 K x0 x3 x18A x18n x18c x19 x20 (decide (x20 < x19)) w
def num_Reader_Var.l0 (K : Value → World → Prop) (k : Nat) : Option Addr → Int → Option Addr → Nat → Nat → Int → Int → World → Prop :=
  Nat.rec (motive := fun _ => Option Addr → Int → Option Addr → Nat → Nat → Int → Int → World → Prop) (fun _ _ _ _ _ _ _ _ => False) (fun _ ih => num_Reader_Var.b0 ih K) k
theorem num_Reader_Var.l0_succ (K : Value → World → Prop) (k : Nat) (x0 : Option Addr) (x3 : Int) (x18A : Option Addr) (x18n : Nat) (x18c : Nat) (x19 : Int) (x20 : Int) (w : World) : num_Reader_Var.l0 K (k + 1) x0 x3 x18A x18n x18c x19 x20 w = num_Reader_Var.b0 (num_Reader_Var.l0 K k) K x0 x3 x18A x18n x18c x19 x20 w := rfl
abbrev num_Reader_Var.p4 (K : Value → World → Prop) (x0 : Option Addr) (x3 : Int) (x18A : Option Addr) (x18n : Nat) (x18c : Nat) (x19 : Int) (x20 : Int) (w : World) : Prop :=
  ∃ k, num_Reader_Var.l0 K k x0 x3 x18A x18n x18c x19 x20 w
abbrev num_Reader_Var.p3 (K : Value → World → Prop) (x0 : Option Addr) (x3 : Int) (w : World) : Prop :=
  ∃ (a1 : Addr), x0 = some a1 ∧ ∃ (A2 : Option Addr) (m3 : Nat) (c4 : Nat), w.cell? a1 = some (.slice A2 m3 c4) ∧ num_Reader_Var.p4 K x0 x3 A2 m3 c4 ((m3 : Nat) : Int) 0 w
abbrev num_Reader_Var.p2 (K : Value → World → Prop) (x0 : Option Addr) (w : World) : Prop :=
  num_Reader_Var.p3 K x0 0 w
abbrev num_Reader_Var.p1 (K : Value → World → Prop) (x0 : Option Addr) (x14 : Bool) (w : World) : Prop :=
  condP x14 (K (.int .u64 0) w) (num_Reader_Var.p2 K x0 w)
abbrev num_Reader_Var.p0 (K : Value → World → Prop) (x0 : Option Addr) (w : World) : Prop :=
  condP x0.isNone (num_Reader_Var.p1 K x0 true w) (∃ (a17 : Addr), x0 = some a17 ∧ ∃ (n18 : Int), w.cell? (a17.add 1) = some (.int .i64 n18) ∧ num_Reader_Var.p1 K x0 (n18 != (0 : Int)) w)
abbrev num_Reader_Var.F (q0 : Option Addr) (K : Value → World → Prop) (w : World) : Prop :=
  num_Reader_Var.p0 K q0 w
theorem num_Reader_Var.ok {q0 : Option Addr} {K : Value → World → Prop} {w : World} (h : num_Reader_Var.F q0 K w) :
    CallsE Try.prog 20 #[.pointer q0] w K := by
  refine calls_of_J (n := 67) (rs := [.tmp 2]) Try.func20 rfl rfl rfl rfl ?_
  refine J_seq (fun σ w => vP (σ 0) fun x0 => num_Reader_Var.p0 K x0 w) ?_ ?_
  ·
    exact sh_sound _ _ _ _ (Eq.mp (by kernel_rfl) h)
  · intro σ w h
    obtain ⟨x0, e0, h⟩ := vP_elim h
    refine J.sub ?_ ((Sub.base _).upd e0)
    clear e0
    refine J_seq (fun σ w => vP (σ 0) fun x0 => num_Reader_Var.p2 K x0 w) ?_ ?_
    ·
      refine J_seq (fun σ w => vP (σ 0) fun x0 => vB (σ 14) fun x14 => num_Reader_Var.p1 K x0 x14 w) ?_ ?_
      ·
        exact sh_sound _ _ _ _ (Eq.mp (by kernel_rfl) h)
      · intro σ w h
        obtain ⟨x0, e0, h⟩ := vP_elim h
        obtain ⟨x14, e14, h⟩ := vB_elim h
        refine J.sub ?_ (((Sub.base _).upd e0).upd e14)
        clear e0 e14
        exact sh_sound _ _ _ _ (Eq.mp (by kernel_rfl) h)
    · intro σ w h
      obtain ⟨x0, e0, h⟩ := vP_elim h
      refine J.sub ?_ ((Sub.base _).upd e0)
      clear e0
      refine J_seq (fun σ w => vP (σ 0) fun x0 => vI .u64 (σ 3) fun x3 => num_Reader_Var.p3 K x0 x3 w) ?_ ?_
      ·
        exact sh_sound _ _ _ _ (Eq.mp (by kernel_rfl) h)
      · intro σ w h
        obtain ⟨x0, e0, h⟩ := vP_elim h
        obtain ⟨x3, e3, h⟩ := vI_elim h
        refine J.sub ?_ (((Sub.base _).upd e0).upd e3)
        clear e0 e3
        refine J_seq (fun σ w => vP (σ 0) fun x0 => num_Reader_Var.p11 K x0 w) ?_ ?_
        ·
          refine J_seq (fun σ w => vP (σ 0) fun x0 => vI .u64 (σ 3) fun x3 => vS (σ 18) fun x18A x18n x18c => vI .i64 (σ 19) fun x19 => vI .i64 (σ 20) fun x20 => num_Reader_Var.p4 K x0 x3 x18A x18n x18c x19 x20 w) ?_ ?_
          ·
            exact sh_sound _ _ _ _ (Eq.mp (by kernel_rfl) h)
          · intro σ w h
            obtain ⟨x0, e0, h⟩ := vP_elim h
            obtain ⟨x3, e3, h⟩ := vI_elim h
            obtain ⟨x18A, x18n, x18c, e18, h⟩ := vS_elim h
            obtain ⟨x19, e19, h⟩ := vI_elim h
            obtain ⟨x20, e20, h⟩ := vI_elim h
            refine J.sub ?_ ((((((Sub.base _).upd e0).upd e3).upd e18).upd e19).upd e20)
            clear e0 e3 e18 e19 e20
            refine J_block ?_
            refine J_loop (fun k σ w => vP (σ 0) fun x0 => vI .u64 (σ 3) fun x3 => vS (σ 18) fun x18A x18n x18c => vI .i64 (σ 19) fun x19 => vI .i64 (σ 20) fun x20 => num_Reader_Var.l0 K k x0 x3 x18A x18n x18c x19 x20 w) (Eq.mp (by kernel_rfl) h) ?_ ?_
            · intro σ w h
              obtain ⟨x0, e0, h⟩ := vP_elim h
              obtain ⟨x3, e3, h⟩ := vI_elim h
              obtain ⟨x18A, x18n, x18c, e18, h⟩ := vS_elim h
              obtain ⟨x19, e19, h⟩ := vI_elim h
              obtain ⟨x20, e20, h⟩ := vI_elim h
              exact h
            · intro k0 σ w h
              obtain ⟨x0, e0, h⟩ := vP_elim h
              obtain ⟨x3, e3, h⟩ := vI_elim h
              obtain ⟨x18A, x18n, x18c, e18, h⟩ := vS_elim h
              obtain ⟨x19, e19, h⟩ := vI_elim h
              obtain ⟨x20, e20, h⟩ := vI_elim h
              refine J.sub ?_ ((((((Sub.base _).upd e0).upd e3).upd e18).upd e19).upd e20)
              clear e0 e3 e18 e19 e20
              refine J_seq (fun σ w => vP (σ 0) fun x0 => vI .u64 (σ 3) fun x3 => vS (σ 18) fun x18A x18n x18c => vI .i64 (σ 19) fun x19 => vI .i64 (σ 20) fun x20 => vB (σ 21) fun x21 => num_Reader_Var.p5 (num_Reader_Var.l0 K k0) K x0 x3 x18A x18n x18c x19 x20 x21 w) ?_ ?_
              ·
                exact sh_sound _ _ _ _ (Eq.mp (by kernel_rfl) h)
              · intro σ w h
                obtain ⟨x0, e0, h⟩ := vP_elim h
                obtain ⟨x3, e3, h⟩ := vI_elim h
                obtain ⟨x18A, x18n, x18c, e18, h⟩ := vS_elim h
                obtain ⟨x19, e19, h⟩ := vI_elim h
                obtain ⟨x20, e20, h⟩ := vI_elim h
                obtain ⟨x21, e21, h⟩ := vB_elim h
                refine J.sub ?_ (((((((Sub.base _).upd e0).upd e3).upd e18).upd e19).upd e20).upd e21)
                clear e0 e3 e18 e19 e20 e21
                refine J_seq (fun σ w => vP (σ 0) fun x0 => vI .u64 (σ 3) fun x3 => vS (σ 18) fun x18A x18n x18c => vI .i64 (σ 19) fun x19 => vI .i64 (σ 20) fun x20 => num_Reader_Var.p6 (num_Reader_Var.l0 K k0) K x0 x3 x18A x18n x18c x19 x20 w) ?_ ?_
                ·
                  exact sh_sound _ _ _ _ (Eq.mp (by kernel_rfl) h)
                · intro σ w h
                  obtain ⟨x0, e0, h⟩ := vP_elim h
                  obtain ⟨x3, e3, h⟩ := vI_elim h
                  obtain ⟨x18A, x18n, x18c, e18, h⟩ := vS_elim h
                  obtain ⟨x19, e19, h⟩ := vI_elim h
                  obtain ⟨x20, e20, h⟩ := vI_elim h
                  refine J.sub ?_ ((((((Sub.base _).upd e0).upd e3).upd e18).upd e19).upd e20)
                  clear e0 e3 e18 e19 e20
                  refine J_seq (fun σ w => vP (σ 0) fun x0 => vI .u64 (σ 3) fun x3 => vS (σ 18) fun x18A x18n x18c => vI .i64 (σ 19) fun x19 => vI .i64 (σ 20) fun x20 => num_Reader_Var.p10 (num_Reader_Var.l0 K k0) K x0 x3 x18A x18n x18c x19 x20 w) ?_ ?_
                  ·
                    refine J_block ?_
                    refine J_seq (fun σ w => vP (σ 0) fun x0 => vI .u64 (σ 3) fun x3 => vI .i64 (σ 4) fun x4 => vI .u8 (σ 5) fun x5 => vS (σ 18) fun x18A x18n x18c => vI .i64 (σ 19) fun x19 => vI .i64 (σ 20) fun x20 => num_Reader_Var.p7 (num_Reader_Var.l0 K k0) K x0 x3 x4 x5 x18A x18n x18c x19 x20 w) ?_ ?_
                    ·
                      exact sh_sound _ _ _ _ (Eq.mp (by kernel_rfl) h)
                    · intro σ w h
                      obtain ⟨x0, e0, h⟩ := vP_elim h
                      obtain ⟨x3, e3, h⟩ := vI_elim h
                      obtain ⟨x4, e4, h⟩ := vI_elim h
                      obtain ⟨x5, e5, h⟩ := vI_elim h
                      obtain ⟨x18A, x18n, x18c, e18, h⟩ := vS_elim h
                      obtain ⟨x19, e19, h⟩ := vI_elim h
                      obtain ⟨x20, e20, h⟩ := vI_elim h
                      refine J.sub ?_ ((((((((Sub.base _).upd e0).upd e3).upd e4).upd e5).upd e18).upd e19).upd e20)
                      clear e0 e3 e4 e5 e18 e19 e20
                      refine J_seq (fun σ w => vP (σ 0) fun x0 => vI .u64 (σ 3) fun x3 => vI .i64 (σ 4) fun x4 => vI .u8 (σ 5) fun x5 => vS (σ 18) fun x18A x18n x18c => vI .i64 (σ 19) fun x19 => vI .i64 (σ 20) fun x20 => num_Reader_Var.p9 (num_Reader_Var.l0 K k0) K x0 x3 x4 x5 x18A x18n x18c x19 x20 w) ?_ ?_
                      ·
                        refine J_seq (fun σ w => vP (σ 0) fun x0 => vI .u64 (σ 3) fun x3 => vI .i64 (σ 4) fun x4 => vI .u8 (σ 5) fun x5 => vS (σ 18) fun x18A x18n x18c => vI .i64 (σ 19) fun x19 => vI .i64 (σ 20) fun x20 => vB (σ 38) fun x38 => num_Reader_Var.p8 (num_Reader_Var.l0 K k0) K x0 x3 x4 x5 x18A x18n x18c x19 x20 x38 w) ?_ ?_
                        ·
                          exact sh_sound _ _ _ _ (Eq.mp (by kernel_rfl) h)
                        · intro σ w h
                          obtain ⟨x0, e0, h⟩ := vP_elim h
                          obtain ⟨x3, e3, h⟩ := vI_elim h
                          obtain ⟨x4, e4, h⟩ := vI_elim h
                          obtain ⟨x5, e5, h⟩ := vI_elim h
                          obtain ⟨x18A, x18n, x18c, e18, h⟩ := vS_elim h
                          obtain ⟨x19, e19, h⟩ := vI_elim h
                          obtain ⟨x20, e20, h⟩ := vI_elim h
                          obtain ⟨x38, e38, h⟩ := vB_elim h
                          refine J.sub ?_ (((((((((Sub.base _).upd e0).upd e3).upd e4).upd e5).upd e18).upd e19).upd e20).upd e38)
                          clear e0 e3 e4 e5 e18 e19 e20 e38
                          exact sh_sound _ _ _ _ (Eq.mp (by kernel_rfl) h)
                      · intro σ w h
                        obtain ⟨x0, e0, h⟩ := vP_elim h
                        obtain ⟨x3, e3, h⟩ := vI_elim h
                        obtain ⟨x4, e4, h⟩ := vI_elim h
                        obtain ⟨x5, e5, h⟩ := vI_elim h
                        obtain ⟨x18A, x18n, x18c, e18, h⟩ := vS_elim h
                        obtain ⟨x19, e19, h⟩ := vI_elim h
                        obtain ⟨x20, e20, h⟩ := vI_elim h
                        refine J.sub ?_ ((((((((Sub.base _).upd e0).upd e3).upd e4).upd e5).upd e18).upd e19).upd e20)
                        clear e0 e3 e4 e5 e18 e19 e20
                        exact sh_sound _ _ _ _ (Eq.mp (by kernel_rfl) h)
                  · intro σ w h
                    obtain ⟨x0, e0, h⟩ := vP_elim h
                    obtain ⟨x3, e3, h⟩ := vI_elim h
                    obtain ⟨x18A, x18n, x18c, e18, h⟩ := vS_elim h
                    obtain ⟨x19, e19, h⟩ := vI_elim h
                    obtain ⟨x20, e20, h⟩ := vI_elim h
                    refine J.sub ?_ ((((((Sub.base _).upd e0).upd e3).upd e18).upd e19).upd e20)
                    clear e0 e3 e18 e19 e20
                    exact sh_sound _ _ _ _ (Eq.mp (by kernel_rfl) h)
        · intro σ w h
          obtain ⟨x0, e0, h⟩ := vP_elim h
          refine J.sub ?_ ((Sub.base _).upd e0)
          clear e0
          exact sh_sound _ _ _ _ (Eq.mp (by kernel_rfl) h)

/-! ### (*hayloft/num.Reader).Err: function 21 -/
abbrev num_Reader_Err.F (q0 : Option Addr) (K : Value → World → Prop) (w : World) : Prop :=
  condP q0.isNone (K (.int .i64 1) w) (∃ (a1 : Addr), q0 = some a1 ∧ ∃ (n2 : Int), w.cell? (a1.add 1) = some (.int .i64 n2) ∧ K (.int .i64 n2) w)
theorem num_Reader_Err.ok {q0 : Option Addr} {K : Value → World → Prop} {w : World} (h : num_Reader_Err.F q0 K w) :
    CallsE Try.prog 21 #[.pointer q0] w K := by
  refine calls_of_J (n := 9) (rs := [.tmp 2]) Try.func21 rfl rfl rfl rfl ?_
  exact sh_sound _ _ _ _ (Eq.mp (by kernel_rfl) h)

/-! ### (*hayloft/num.Reader).Left: function 22 -/
abbrev num_Reader_Left.p2 (K : Value → World → Prop) (x0 : Option Addr) (w : World) : Prop :=
  ∃ (a1 : Addr), x0 = some a1 ∧ ∃ (A2 : Option Addr) (m3 : Nat) (c4 : Nat), w.cell? a1 = some (.slice A2 m3 c4) ∧ K (.int .i64 ((m3 : Nat) : Int)) w
abbrev num_Reader_Left.p1 (K : Value → World → Prop) (x0 : Option Addr) (x11 : Bool) (w : World) : Prop :=
  condP x11 (K (.int .i64 0) w) (num_Reader_Left.p2 K x0 w)
abbrev num_Reader_Left.p0 (K : Value → World → Prop) (x0 : Option Addr) (w : World) : Prop :=
  condP x0.isNone (num_Reader_Left.p1 K x0 true w) (∃ (a5 : Addr), x0 = some a5 ∧ ∃ (n6 : Int), w.cell? (a5.add 1) = some (.int .i64 n6) ∧ num_Reader_Left.p1 K x0 (n6 != (0 : Int)) w)
abbrev num_Reader_Left.F (q0 : Option Addr) (K : Value → World → Prop) (w : World) : Prop :=
  num_Reader_Left.p0 K q0 w
theorem num_Reader_Left.ok {q0 : Option Addr} {K : Value → World → Prop} {w : World} (h : num_Reader_Left.F q0 K w) :
    CallsE Try.prog 22 #[.pointer q0] w K := by
  refine calls_of_J (n := 17) (rs := [.tmp 2]) Try.func22 rfl rfl rfl rfl ?_
  refine J_seq (fun σ w => vP (σ 0) fun x0 => num_Reader_Left.p0 K x0 w) ?_ ?_
  ·
    exact sh_sound _ _ _ _ (Eq.mp (by kernel_rfl) h)
  · intro σ w h
    obtain ⟨x0, e0, h⟩ := vP_elim h
    refine J.sub ?_ ((Sub.base _).upd e0)
    clear e0
    refine J_seq (fun σ w => vP (σ 0) fun x0 => num_Reader_Left.p2 K x0 w) ?_ ?_
    ·
      refine J_seq (fun σ w => vP (σ 0) fun x0 => vB (σ 11) fun x11 => num_Reader_Left.p1 K x0 x11 w) ?_ ?_
      ·
        exact sh_sound _ _ _ _ (Eq.mp (by kernel_rfl) h)
      · intro σ w h
        obtain ⟨x0, e0, h⟩ := vP_elim h
        obtain ⟨x11, e11, h⟩ := vB_elim h
        refine J.sub ?_ (((Sub.base _).upd e0).upd e11)
        clear e0 e11
        exact sh_sound _ _ _ _ (Eq.mp (by kernel_rfl) h)
    · intro σ w h
      obtain ⟨x0, e0, h⟩ := vP_elim h
      refine J.sub ?_ ((Sub.base _).upd e0)
      clear e0
      exact sh_sound _ _ _ _ (Eq.mp (by kernel_rfl) h)

/-! ### (*hayloft/num.Reader).Upto: function 23 -/
abbrev num_Reader_Upto.F (q0 : Option Addr) (q1 : Int) (K : Value → World → Prop) (w : World) : Prop :=
  condP q0.isNone (K (.int .u64 0) w) (∃ (a1 : Addr), q0 = some a1 ∧ ∃ (A2 : Option Addr) (m3 : Nat) (c4 : Nat), w.cell? a1 = some (.slice A2 m3 c4) ∧ CallsE Try.prog 20 #[.pointer q0] w (fun v5 w6 => ∃ (n7 : Int), v5 = .int .u64 n7 ∧ condP (decide (q1 < n7)) (∃ (a8 : Addr), q0 = some a8 ∧ canStore w6 a8 ∧ wlet (w6.setCell a8 (.slice A2 m3 c4)) fun w9 => ∃ (a10 : Addr), q0 = some a10 ∧ canStore w9 (a10.add 1) ∧ wlet (w9.setCell (a10.add 1) (.int .i64 4)) fun w11 => K (.int .u64 0) w11) (K (.int .u64 n7) w6)))
theorem num_Reader_Upto.ok {q0 : Option Addr} {q1 : Int} {K : Value → World → Prop} {w : World} (h : num_Reader_Upto.F q0 q1 K w) :
    CallsE Try.prog 23 #[.pointer q0, .int .u64 q1] w K := by
  refine calls_of_J (n := 26) (rs := [.tmp 4]) Try.func23 rfl rfl rfl rfl ?_
  exact sh_sound _ _ _ _ (Eq.mp (by kernel_rfl) h)

/-! ### (*hayloft/num.Reader).Fixed: function 24 -/
abbrev num_Reader_Fixed.F (q0 : Option Addr) (q1 : Int) (K : Value → World → Prop) (w : World) : Prop :=
  CallsE Try.prog 36 #[.int .i64 q1] w (fun v1 w2 => ∃ (n3 : Int), v1 = .int .i64 n3 ∧ CallsE Try.prog 25 #[.pointer q0, .int .i64 n3] w2 (fun v4 w5 => ∃ (A6 : Option Addr) (m7 : Nat) (c8 : Nat), v4 = .slice A6 m7 c8 ∧ CallsE Try.prog 14 #[.slice A6 m7 c8] w5 (fun v9 w10 => ∃ (n11 : Int), v9 = .int .u64 n11 ∧ K (.int .u64 n11) w10)))
theorem num_Reader_Fixed.ok {q0 : Option Addr} {q1 : Int} {K : Value → World → Prop} {w : World} (h : num_Reader_Fixed.F q0 q1 K w) :
    CallsE Try.prog 24 #[.pointer q0, .int .i64 q1] w K := by
  refine calls_of_J (n := 10) (rs := [.tmp 4]) Try.func24 rfl rfl rfl rfl ?_
  exact sh_sound _ _ _ _ (Eq.mp (by kernel_rfl) h)

/-! ### (*hayloft/num.Reader).Bytes: function 25 -/
abbrev num_Reader_Bytes.p2 (K : Value → World → Prop) (x0 : Option Addr) (x1 : Int) (w : World) : Prop :=
  ∃ (a1 : Addr), x0 = some a1 ∧ ∃ (A2 : Option Addr) (m3 : Nat) (c4 : Nat), w.cell? a1 = some (.slice A2 m3 c4) ∧ condP (decide (((m3 : Nat) : Int) < x1)) (∃ (a5 : Addr), x0 = some a5 ∧ canStore w (a5.add 1) ∧ wlet (w.setCell (a5.add 1) (.int .i64 3)) fun w6 => K (.slice none 0 0) w6) ((0 ≤ x1 ∧ x1 ≤ x1 ∧ (1 : Int) * x1 ≤ 281474976710656 ∧ x1 ≤ 9223372036854775807) ∧ wlet (w.alloc (.cells (madeCells #[.int .u8 0] (x1.toNat * 1)) 5)) fun w7 => ∃ (a8 : Addr), x0 = some a8 ∧ ∃ (A9 : Option Addr) (m10 : Nat) (c11 : Nat), w7.cell? a8 = some (.slice A9 m10 c11) ∧ SemJ Try.prog (Builtin.copy_ #[23, 23] 3 #[.slice (some ⟨w.heap.size, 0, none⟩) x1.toNat x1.toNat, .slice A9 m10 c11]) (fun v12 w13 => ∃ (n14 : Int), v12 = .int .i64 n14 ∧ ∃ (a15 : Addr), x0 = some a15 ∧ ∃ (A16 : Option Addr) (m17 : Nat) (c18 : Nat), w13.cell? a15 = some (.slice A16 m17 c18) ∧ (0 ≤ x1 ∧ x1 ≤ ((m17 : Nat) : Int)) ∧ ∃ (a19 : Addr), x0 = some a19 ∧ canStore w13 a19 ∧ wlet (w13.setCell a19 (.slice (slA A16 x1.toNat c18 1) (m17 - x1.toNat) (c18 - x1.toNat))) fun w20 => K (.slice (some ⟨w.heap.size, 0, none⟩) x1.toNat x1.toNat) w20) w7)
abbrev num_Reader_Bytes.p1 (K : Value → World → Prop) (x0 : Option Addr) (x1 : Int) (x18 : Bool) (w : World) : Prop :=
  condP x18 (K (.slice none 0 0) w) (num_Reader_Bytes.p2 K x0 x1 w)
abbrev num_Reader_Bytes.p0 (K : Value → World → Prop) (x0 : Option Addr) (x1 : Int) (w : World) : Prop :=
  condP x0.isNone (num_Reader_Bytes.p1 K x0 x1 true w) (∃ (a21 : Addr), x0 = some a21 ∧ ∃ (n22 : Int), w.cell? (a21.add 1) = some (.int .i64 n22) ∧ condP (n22 != (0 : Int)) (num_Reader_Bytes.p1 K x0 x1 true w) (num_Reader_Bytes.p1 K x0 x1 (decide (x1 ≤ (0 : Int))) w))
abbrev num_Reader_Bytes.F (q0 : Option Addr) (q1 : Int) (K : Value → World → Prop) (w : World) : Prop :=
  num_Reader_Bytes.p0 K q0 q1 w
theorem num_Reader_Bytes.ok {q0 : Option Addr} {q1 : Int} {K : Value → World → Prop} {w : World} (h : num_Reader_Bytes.F q0 q1 K w) :
    CallsE Try.prog 25 #[.pointer q0, .int .i64 q1] w K := by
  refine calls_of_J (n := 47) (rs := [.tmp 4]) Try.func25 rfl rfl rfl rfl ?_
  refine J_seq (fun σ w => vP (σ 0) fun x0 => vI .i64 (σ 1) fun x1 => num_Reader_Bytes.p0 K x0 x1 w) ?_ ?_
  ·
    exact sh_sound _ _ _ _ (Eq.mp (by kernel_rfl) h)
  · intro σ w h
    obtain ⟨x0, e0, h⟩ := vP_elim h
    obtain ⟨x1, e1, h⟩ := vI_elim h
    refine J.sub ?_ (((Sub.base _).upd e0).upd e1)
    clear e0 e1
    refine J_seq (fun σ w => vP (σ 0) fun x0 => vI .i64 (σ 1) fun x1 => num_Reader_Bytes.p2 K x0 x1 w) ?_ ?_
    ·
      refine J_seq (fun σ w => vP (σ 0) fun x0 => vI .i64 (σ 1) fun x1 => vB (σ 18) fun x18 => num_Reader_Bytes.p1 K x0 x1 x18 w) ?_ ?_
      ·
        exact sh_sound _ _ _ _ (Eq.mp (by kernel_rfl) h)
      · intro σ w h
        obtain ⟨x0, e0, h⟩ := vP_elim h
        obtain ⟨x1, e1, h⟩ := vI_elim h
        obtain ⟨x18, e18, h⟩ := vB_elim h
        refine J.sub ?_ ((((Sub.base _).upd e0).upd e1).upd e18)
        clear e0 e1 e18
        exact sh_sound _ _ _ _ (Eq.mp (by kernel_rfl) h)
    · intro σ w h
      obtain ⟨x0, e0, h⟩ := vP_elim h
      obtain ⟨x1, e1, h⟩ := vI_elim h
      refine J.sub ?_ (((Sub.base _).upd e0).upd e1)
      clear e0 e1
      exact sh_sound _ _ _ _ (Eq.mp (by kernel_rfl) h)

/-! ### (*hayloft/num.Reader).End: function 26 -/
abbrev num_Reader_End.p2 (K : Value → World → Prop) (x0 : Option Addr) (w : World) : Prop :=
  CallsE Try.prog 21 #[.pointer x0] w (fun v8 w9 => ∃ (n10 : Int), v8 = .int .i64 n10 ∧ K (.int .i64 n10) w9)
abbrev num_Reader_End.p1 (K : Value → World → Prop) (x0 : Option Addr) (x13 : Bool) (w : World) : Prop :=
  condP x13 (K (.int .i64 6) w) (num_Reader_End.p2 K x0 w)
abbrev num_Reader_End.p0 (K : Value → World → Prop) (x0 : Option Addr) (w : World) : Prop :=
  CallsE Try.prog 21 #[.pointer x0] w (fun v1 w2 => ∃ (n3 : Int), v1 = .int .i64 n3 ∧ condP (n3 == (0 : Int)) (∃ (a4 : Addr), x0 = some a4 ∧ ∃ (A5 : Option Addr) (m6 : Nat) (c7 : Nat), w2.cell? a4 = some (.slice A5 m6 c7) ∧ num_Reader_End.p1 K x0 (decide ((0 : Int) < ((m6 : Nat) : Int))) w2) (num_Reader_End.p1 K x0 false w2))
abbrev num_Reader_End.F (q0 : Option Addr) (K : Value → World → Prop) (w : World) : Prop :=
  num_Reader_End.p0 K q0 w
theorem num_Reader_End.ok {q0 : Option Addr} {K : Value → World → Prop} {w : World} (h : num_Reader_End.F q0 K w) :
    CallsE Try.prog 26 #[.pointer q0] w K := by
  refine calls_of_J (n := 16) (rs := [.tmp 2]) Try.func26 rfl rfl rfl rfl ?_
  refine J_seq (fun σ w => vP (σ 0) fun x0 => num_Reader_End.p0 K x0 w) ?_ ?_
  ·
    exact sh_sound _ _ _ _ (Eq.mp (by kernel_rfl) h)
  · intro σ w h
    obtain ⟨x0, e0, h⟩ := vP_elim h
    refine J.sub ?_ ((Sub.base _).upd e0)
    clear e0
    refine J_seq (fun σ w => vP (σ 0) fun x0 => num_Reader_End.p2 K x0 w) ?_ ?_
    ·
      refine J_seq (fun σ w => vP (σ 0) fun x0 => vB (σ 13) fun x13 => num_Reader_End.p1 K x0 x13 w) ?_ ?_
      ·
        exact sh_sound _ _ _ _ (Eq.mp (by kernel_rfl) h)
      · intro σ w h
        obtain ⟨x0, e0, h⟩ := vP_elim h
        obtain ⟨x13, e13, h⟩ := vB_elim h
        refine J.sub ?_ (((Sub.base _).upd e0).upd e13)
        clear e0 e13
        exact sh_sound _ _ _ _ (Eq.mp (by kernel_rfl) h)
    · intro σ w h
      obtain ⟨x0, e0, h⟩ := vP_elim h
      refine J.sub ?_ ((Sub.base _).upd e0)
      clear e0
      exact sh_sound _ _ _ _ (Eq.mp (by kernel_rfl) h)

/-! ### hayloft/hayloftref01.Copy: function 27 -/
abbrev ref01_Copy.F (q0A : Option Addr) (q0n : Nat) (q0c : Nat) (K : Value → World → Prop) (w : World) : Prop :=
  wlet (w.alloc (.cells #[] 5)) fun w1 => SemJ Try.prog (Builtin.append_ #[23, 23] 23 #[.slice (some ⟨w.heap.size, 0, none⟩) 0 0, .slice q0A q0n q0c]) (fun v2 w3 => ∃ (A4 : Option Addr) (m5 : Nat) (c6 : Nat), v2 = .slice A4 m5 c6 ∧ K (.slice A4 m5 c6) w3) w1
theorem ref01_Copy.ok {q0A : Option Addr} {q0n : Nat} {q0c : Nat} {K : Value → World → Prop} {w : World} (h : ref01_Copy.F q0A q0n q0c K w) :
    CallsE Try.prog 27 #[.slice q0A q0n q0c] w K := by
  refine calls_of_J (n := 6) (rs := [.tmp 2]) Try.func27 rfl rfl rfl rfl ?_
  exact sh_sound _ _ _ _ (Eq.mp (by kernel_rfl) h)

/-! ### (*hayloft/hayloftref01.Reader).Fixed: function 28 -/
abbrev ref01_Reader_Fixed.F (q0 : Option Addr) (q1 : Int) (K : Value → World → Prop) (w : World) : Prop :=
  CallsE Try.prog 37 #[.int .i64 q1] w (fun v1 w2 => ∃ (n3 : Int), v1 = .int .i64 n3 ∧ CallsE Try.prog 31 #[.pointer q0, .int .i64 n3] w2 (fun v4 w5 => ∃ (A6 : Option Addr) (m7 : Nat) (c8 : Nat), v4 = .slice A6 m7 c8 ∧ CallsE Try.prog 15 #[.slice A6 m7 c8] w5 (fun v9 w10 => ∃ (n11 : Int), v9 = .int .u64 n11 ∧ K (.int .u64 n11) w10)))
theorem ref01_Reader_Fixed.ok {q0 : Option Addr} {q1 : Int} {K : Value → World → Prop} {w : World} (h : ref01_Reader_Fixed.F q0 q1 K w) :
    CallsE Try.prog 28 #[.pointer q0, .int .i64 q1] w K := by
  refine calls_of_J (n := 10) (rs := [.tmp 4]) Try.func28 rfl rfl rfl rfl ?_
  exact sh_sound _ _ _ _ (Eq.mp (by kernel_rfl) h)

/-! ### (*hayloft/hayloftref01.Reader).Var: function 29 -/
abbrev ref01_Reader_Var.p9 (L0 : Option Addr → Int → Int → Int → World → Prop) (K : Value → World → Prop) (x0 : Option Addr) (x3 : Int) (x4 : Int) (x5 : Int) (w : World) : Prop :=
  L0 x0 x3 x4 (IntKind.wrap .i64 (x5 + (1 : Int))) w
abbrev ref01_Reader_Var.p8 (L0 : Option Addr → Int → Int → Int → World → Prop) (K : Value → World → Prop) (x0 : Option Addr) (x3 : Int) (x4 : Int) (x5 : Int) (x6 : Int) (w : World) : Prop :=
  (128 : Int) ≠ 0 ∧ condP (decide (x6 < (128 : Int))) (∃ (a17 : Addr), x0 = some a17 ∧ ∃ (A18 : Option Addr) (m19 : Nat) (c20 : Nat), w.cell? a17 = some (.slice A18 m19 c20) ∧ (0 ≤ (IntKind.wrap .i64 (x5 + (1 : Int))) ∧ (IntKind.wrap .i64 (x5 + (1 : Int))) ≤ ((m19 : Nat) : Int)) ∧ ∃ (a21 : Addr), x0 = some a21 ∧ canStore w a21 ∧ wlet (w.setCell a21 (.slice (slA A18 ((IntKind.wrap .i64 (x5 + (1 : Int))).toNat) c20 1) (m19 - ((IntKind.wrap .i64 (x5 + (1 : Int))).toNat)) (c20 - ((IntKind.wrap .i64 (x5 + (1 : Int))).toNat)))) fun w22 => K (.int .u64 (IntKind.wrap .u64 (x3 + (IntKind.wrap .u64 ((IntKind.wrap .u64 (Int.tmod x6 128)) * x4))))) w22) (ref01_Reader_Var.p9 L0 K x0 (IntKind.wrap .u64 (x3 + (IntKind.wrap .u64 ((IntKind.wrap .u64 (Int.tmod x6 128)) * x4)))) (IntKind.wrap .u64 (x4 * (128 : Int))) x5 w)
abbrev ref01_Reader_Var.p7 (L0 : Option Addr → Int → Int → Int → World → Prop) (K : Value → World → Prop) (x0 : Option Addr) (x3 : Int) (x4 : Int) (x5 : Int) (x6 : Int) (x44 : Bool) (w : World) : Prop :=
  condP x44 (∃ (a15 : Addr), x0 = some a15 ∧ canStore w (a15.add 1) ∧ wlet (w.setCell (a15.add 1) (.int .i64 4)) fun w16 => K (.int .u64 0) w16) (ref01_Reader_Var.p8 L0 K x0 x3 x4 x5 x6 w)
abbrev ref01_Reader_Var.p6 (L0 : Option Addr → Int → Int → Int → World → Prop) (K : Value → World → Prop) (x0 : Option Addr) (x3 : Int) (x4 : Int) (x5 : Int) (x6 : Int) (w : World) : Prop :=
  condP (x5 == (9 : Int)) (condP (decide ((1 : Int) < x6)) (ref01_Reader_Var.p7 L0 K x0 x3 x4 x5 x6 true w) (condP (decide ((0 : Int) < x5)) (ref01_Reader_Var.p7 L0 K x0 x3 x4 x5 x6 (x6 == (0 : Int)) w) (ref01_Reader_Var.p7 L0 K x0 x3 x4 x5 x6 false w))) (condP (decide ((0 : Int) < x5)) (ref01_Reader_Var.p7 L0 K x0 x3 x4 x5 x6 (x6 == (0 : Int)) w) (ref01_Reader_Var.p7 L0 K x0 x3 x4 x5 x6 false w))
abbrev ref01_Reader_Var.p5 (L0 : Option Addr → Int → Int → Int → World → Prop) (K : Value → World → Prop) (x0 : Option Addr) (x3 : Int) (x4 : Int) (x5 : Int) (w : World) : Prop :=
  ∃ (a9 : Addr), x0 = some a9 ∧ ∃ (A10 : Option Addr) (m11 : Nat) (c12 : Nat), w.cell? a9 = some (.slice A10 m11 c12) ∧ (0 ≤ x5 ∧ x5 < ((m11 : Nat) : Int)) ∧ ∃ (a13 : Addr), A10 = some a13 ∧ ∃ (n14 : Int), w.cell? (a13.add x5.toNat) = some (.int .u8 n14) ∧ ref01_Reader_Var.p6 L0 K x0 x3 x4 x5 n14 w
abbrev ref01_Reader_Var.b0 (L0 : Option Addr → Int → Int → Int → World → Prop) (K : Value → World → Prop) (x0 : Option Addr) (x3 : Int) (x4 : Int) (x5 : Int) (w : World) : Prop :=
  ∃ (a3 : Addr), x0 = some a3 ∧ ∃ (A4 : Option Addr) (m5 : Nat) (c6 : Nat), w.cell? a3 = some (.slice A4 m5 c6) ∧ condP (decide (((m5 : Nat) : Int) ≤ x5)) (∃ (a7 : Addr), x0 = some a7 ∧ canStore w (a7.add 1) ∧ wlet (w.setCell (a7.add 1) (.int .i64 3)) fun w8 => K (.int .u64 0) w8) (ref01_Reader_Var.p5 L0 K x0 x3 x4 x5 w)
def ref01_Reader_Var.l0 (K : Value → World → Prop) (k : Nat) : Option Addr → Int → Int → Int → World → Prop :=
  Nat.rec (motive := fun _ => Option Addr → Int → Int → Int → World → Prop) (fun _ _ _ _ _ => False) (fun _ ih => ref01_Reader_Var.b0 ih K) k
theorem ref01_Reader_Var.l0_succ (K : Value → World → Prop) (k : Nat) (x0 : Option Addr) (x3 : Int) (x4 : Int) (x5 : Int) (w : World) : ref01_Reader_Var.l0 K (k + 1) x0 x3 x4 x5 w = ref01_Reader_Var.b0 (ref01_Reader_Var.l0 K k) K x0 x3 x4 x5 w := rfl
abbrev ref01_Reader_Var.p4 (K : Value → World → Prop) (x0 : Option Addr) (x3 : Int) (x4 : Int) (x5 : Int) (w : World) : Prop :=
  ∃ k, ref01_Reader_Var.l0 K k x0 x3 x4 x5 w
abbrev ref01_Reader_Var.p3 (K : Value → World → Prop) (x0 : Option Addr) (x3 : Int) (x4 : Int) (w : World) : Prop :=
  ref01_Reader_Var.p4 K x0 x3 x4 0 w
abbrev ref01_Reader_Var.p2 (K : Value → World → Prop) (x0 : Option Addr) (x3 : Int) (w : World) : Prop :=
  ref01_Reader_Var.p3 K x0 x3 1 w
abbrev ref01_Reader_Var.p1 (K : Value → World → Prop) (x0 : Option Addr) (w : World) : Prop :=
  ref01_Reader_Var.p2 K x0 0 w
abbrev ref01_Reader_Var.p0 (K : Value → World → Prop) (x0 : Option Addr) (w : World) : Prop :=
  ∃ (a1 : Addr), x0 = some a1 ∧ ∃ (n2 : Int), w.cell? (a1.add 1) = some (.int .i64 n2) ∧ condP (n2 != (0 : Int)) (K (.int .u64 0) w) (ref01_Reader_Var.p1 K x0 w)
abbrev ref01_Reader_Var.F (q0 : Option Addr) (K : Value → World → Prop) (w : World) : Prop :=
  ref01_Reader_Var.p0 K q0 w
theorem ref01_Reader_Var.ok {q0 : Option Addr} {K : Value → World → Prop} {w : World} (h : ref01_Reader_Var.F q0 K w) :
    CallsE Try.prog 29 #[.pointer q0] w K := by
  refine calls_of_J (n := 70) (rs := [.tmp 2]) Try.func29 rfl rfl rfl rfl ?_
  refine J_seq (fun σ w => vP (σ 0) fun x0 => ref01_Reader_Var.p0 K x0 w) ?_ ?_
  ·
    exact sh_sound _ _ _ _ (Eq.mp (by kernel_rfl) h)
  · intro σ w h
    obtain ⟨x0, e0, h⟩ := vP_elim h
    refine J.sub ?_ ((Sub.base _).upd e0)
    clear e0
    refine J_seq (fun σ w => vP (σ 0) fun x0 => ref01_Reader_Var.p1 K x0 w) ?_ ?_
    ·
      exact sh_sound _ _ _ _ (Eq.mp (by kernel_rfl) h)
    · intro σ w h
      obtain ⟨x0, e0, h⟩ := vP_elim h
      refine J.sub ?_ ((Sub.base _).upd e0)
      clear e0
      refine J_seq (fun σ w => vP (σ 0) fun x0 => vI .u64 (σ 3) fun x3 => ref01_Reader_Var.p2 K x0 x3 w) ?_ ?_
      ·
        exact sh_sound _ _ _ _ (Eq.mp (by kernel_rfl) h)
      · intro σ w h
        obtain ⟨x0, e0, h⟩ := vP_elim h
        obtain ⟨x3, e3, h⟩ := vI_elim h
        refine J.sub ?_ (((Sub.base _).upd e0).upd e3)
        clear e0 e3
        refine J_seq (fun σ w => vP (σ 0) fun x0 => vI .u64 (σ 3) fun x3 => vI .u64 (σ 4) fun x4 => ref01_Reader_Var.p3 K x0 x3 x4 w) ?_ ?_
        ·
          exact sh_sound _ _ _ _ (Eq.mp (by kernel_rfl) h)
        · intro σ w h
          obtain ⟨x0, e0, h⟩ := vP_elim h
          obtain ⟨x3, e3, h⟩ := vI_elim h
          obtain ⟨x4, e4, h⟩ := vI_elim h
          refine J.sub ?_ ((((Sub.base _).upd e0).upd e3).upd e4)
          clear e0 e3 e4
          refine J_seq (fun σ w => vP (σ 0) fun x0 => vI .u64 (σ 3) fun x3 => vI .u64 (σ 4) fun x4 => vI .i64 (σ 5) fun x5 => ref01_Reader_Var.p4 K x0 x3 x4 x5 w) ?_ ?_
          ·
            exact sh_sound _ _ _ _ (Eq.mp (by kernel_rfl) h)
          · intro σ w h
            obtain ⟨x0, e0, h⟩ := vP_elim h
            obtain ⟨x3, e3, h⟩ := vI_elim h
            obtain ⟨x4, e4, h⟩ := vI_elim h
            obtain ⟨x5, e5, h⟩ := vI_elim h
            refine J.sub ?_ (((((Sub.base _).upd e0).upd e3).upd e4).upd e5)
            clear e0 e3 e4 e5
            refine J_block ?_
            refine J_loop (fun k σ w => vP (σ 0) fun x0 => vI .u64 (σ 3) fun x3 => vI .u64 (σ 4) fun x4 => vI .i64 (σ 5) fun x5 => ref01_Reader_Var.l0 K k x0 x3 x4 x5 w) (Eq.mp (by kernel_rfl) h) ?_ ?_
            · intro σ w h
              obtain ⟨x0, e0, h⟩ := vP_elim h
              obtain ⟨x3, e3, h⟩ := vI_elim h
              obtain ⟨x4, e4, h⟩ := vI_elim h
              obtain ⟨x5, e5, h⟩ := vI_elim h
              exact h
            · intro k0 σ w h
              obtain ⟨x0, e0, h⟩ := vP_elim h
              obtain ⟨x3, e3, h⟩ := vI_elim h
              obtain ⟨x4, e4, h⟩ := vI_elim h
              obtain ⟨x5, e5, h⟩ := vI_elim h
              refine J.sub ?_ (((((Sub.base _).upd e0).upd e3).upd e4).upd e5)
              clear e0 e3 e4 e5
              refine J_seq (fun σ w => vP (σ 0) fun x0 => vI .u64 (σ 3) fun x3 => vI .u64 (σ 4) fun x4 => vI .i64 (σ 5) fun x5 => ref01_Reader_Var.p9 (ref01_Reader_Var.l0 K k0) K x0 x3 x4 x5 w) ?_ ?_
              ·
                refine J_block ?_
                refine J_seq (fun σ w => vP (σ 0) fun x0 => vI .u64 (σ 3) fun x3 => vI .u64 (σ 4) fun x4 => vI .i64 (σ 5) fun x5 => ref01_Reader_Var.p5 (ref01_Reader_Var.l0 K k0) K x0 x3 x4 x5 w) ?_ ?_
                ·
                  exact sh_sound _ _ _ _ (Eq.mp (by kernel_rfl) h)
                · intro σ w h
                  obtain ⟨x0, e0, h⟩ := vP_elim h
                  obtain ⟨x3, e3, h⟩ := vI_elim h
                  obtain ⟨x4, e4, h⟩ := vI_elim h
                  obtain ⟨x5, e5, h⟩ := vI_elim h
                  refine J.sub ?_ (((((Sub.base _).upd e0).upd e3).upd e4).upd e5)
                  clear e0 e3 e4 e5
                  refine J_seq (fun σ w => vP (σ 0) fun x0 => vI .u64 (σ 3) fun x3 => vI .u64 (σ 4) fun x4 => vI .i64 (σ 5) fun x5 => vI .u8 (σ 6) fun x6 => ref01_Reader_Var.p6 (ref01_Reader_Var.l0 K k0) K x0 x3 x4 x5 x6 w) ?_ ?_
                  ·
                    exact sh_sound _ _ _ _ (Eq.mp (by kernel_rfl) h)
                  · intro σ w h
                    obtain ⟨x0, e0, h⟩ := vP_elim h
                    obtain ⟨x3, e3, h⟩ := vI_elim h
                    obtain ⟨x4, e4, h⟩ := vI_elim h
                    obtain ⟨x5, e5, h⟩ := vI_elim h
                    obtain ⟨x6, e6, h⟩ := vI_elim h
                    refine J.sub ?_ ((((((Sub.base _).upd e0).upd e3).upd e4).upd e5).upd e6)
                    clear e0 e3 e4 e5 e6
                    refine J_seq (fun σ w => vP (σ 0) fun x0 => vI .u64 (σ 3) fun x3 => vI .u64 (σ 4) fun x4 => vI .i64 (σ 5) fun x5 => vI .u8 (σ 6) fun x6 => ref01_Reader_Var.p8 (ref01_Reader_Var.l0 K k0) K x0 x3 x4 x5 x6 w) ?_ ?_
                    ·
                      refine J_seq (fun σ w => vP (σ 0) fun x0 => vI .u64 (σ 3) fun x3 => vI .u64 (σ 4) fun x4 => vI .i64 (σ 5) fun x5 => vI .u8 (σ 6) fun x6 => vB (σ 44) fun x44 => ref01_Reader_Var.p7 (ref01_Reader_Var.l0 K k0) K x0 x3 x4 x5 x6 x44 w) ?_ ?_
                      ·
                        exact sh_sound _ _ _ _ (Eq.mp (by kernel_rfl) h)
                      · intro σ w h
                        obtain ⟨x0, e0, h⟩ := vP_elim h
                        obtain ⟨x3, e3, h⟩ := vI_elim h
                        obtain ⟨x4, e4, h⟩ := vI_elim h
                        obtain ⟨x5, e5, h⟩ := vI_elim h
                        obtain ⟨x6, e6, h⟩ := vI_elim h
                        obtain ⟨x44, e44, h⟩ := vB_elim h
                        refine J.sub ?_ (((((((Sub.base _).upd e0).upd e3).upd e4).upd e5).upd e6).upd e44)
                        clear e0 e3 e4 e5 e6 e44
                        exact sh_sound _ _ _ _ (Eq.mp (by kernel_rfl) h)
                    · intro σ w h
                      obtain ⟨x0, e0, h⟩ := vP_elim h
                      obtain ⟨x3, e3, h⟩ := vI_elim h
                      obtain ⟨x4, e4, h⟩ := vI_elim h
                      obtain ⟨x5, e5, h⟩ := vI_elim h
                      obtain ⟨x6, e6, h⟩ := vI_elim h
                      refine J.sub ?_ ((((((Sub.base _).upd e0).upd e3).upd e4).upd e5).upd e6)
                      clear e0 e3 e4 e5 e6
                      exact sh_sound _ _ _ _ (Eq.mp (by kernel_rfl) h)
              · intro σ w h
                obtain ⟨x0, e0, h⟩ := vP_elim h
                obtain ⟨x3, e3, h⟩ := vI_elim h
                obtain ⟨x4, e4, h⟩ := vI_elim h
                obtain ⟨x5, e5, h⟩ := vI_elim h
                refine J.sub ?_ (((((Sub.base _).upd e0).upd e3).upd e4).upd e5)
                clear e0 e3 e4 e5
                exact sh_sound _ _ _ _ (Eq.mp (by kernel_rfl) h)

/-! ### (*hayloft/hayloftref01.Reader).Upto: function 30 -/
abbrev ref01_Reader_Upto.p4 (K : Value → World → Prop) (x6 : Int) (w : World) : Prop :=
  K (.int .u64 x6) w
abbrev ref01_Reader_Upto.p3 (K : Value → World → Prop) (x0 : Option Addr) (x5A : Option Addr) (x5n : Nat) (x5c : Nat) (x6 : Int) (x22 : Bool) (w : World) : Prop :=
  condP x22 (∃ (a10 : Addr), x0 = some a10 ∧ canStore w (a10.add 1) ∧ wlet (w.setCell (a10.add 1) (.int .i64 4)) fun w11 => ∃ (a12 : Addr), x0 = some a12 ∧ canStore w11 a12 ∧ wlet (w11.setCell a12 (.slice x5A x5n x5c)) fun w13 => K (.int .u64 0) w13) (ref01_Reader_Upto.p4 K x6 w)
abbrev ref01_Reader_Upto.p2 (K : Value → World → Prop) (x0 : Option Addr) (x1 : Int) (x5A : Option Addr) (x5n : Nat) (x5c : Nat) (x6 : Int) (w : World) : Prop :=
  ∃ (a8 : Addr), x0 = some a8 ∧ ∃ (n9 : Int), w.cell? (a8.add 1) = some (.int .i64 n9) ∧ condP (n9 == (0 : Int)) (ref01_Reader_Upto.p3 K x0 x5A x5n x5c x6 (decide (x1 < x6)) w) (ref01_Reader_Upto.p3 K x0 x5A x5n x5c x6 false w)
abbrev ref01_Reader_Upto.p1 (K : Value → World → Prop) (x0 : Option Addr) (x1 : Int) (x5A : Option Addr) (x5n : Nat) (x5c : Nat) (w : World) : Prop :=
  CallsE Try.prog 29 #[.pointer x0] w (fun v5 w6 => ∃ (n7 : Int), v5 = .int .u64 n7 ∧ ref01_Reader_Upto.p2 K x0 x1 x5A x5n x5c n7 w6)
abbrev ref01_Reader_Upto.p0 (K : Value → World → Prop) (x0 : Option Addr) (x1 : Int) (w : World) : Prop :=
  ∃ (a1 : Addr), x0 = some a1 ∧ ∃ (A2 : Option Addr) (m3 : Nat) (c4 : Nat), w.cell? a1 = some (.slice A2 m3 c4) ∧ ref01_Reader_Upto.p1 K x0 x1 A2 m3 c4 w
abbrev ref01_Reader_Upto.F (q0 : Option Addr) (q1 : Int) (K : Value → World → Prop) (w : World) : Prop :=
  ref01_Reader_Upto.p0 K q0 q1 w
theorem ref01_Reader_Upto.ok {q0 : Option Addr} {q1 : Int} {K : Value → World → Prop} {w : World} (h : ref01_Reader_Upto.F q0 q1 K w) :
    CallsE Try.prog 30 #[.pointer q0, .int .u64 q1] w K := by
  refine calls_of_J (n := 31) (rs := [.tmp 4]) Try.func30 rfl rfl rfl rfl ?_
  refine J_seq (fun σ w => vP (σ 0) fun x0 => vI .u64 (σ 1) fun x1 => ref01_Reader_Upto.p0 K x0 x1 w) ?_ ?_
  ·
    exact sh_sound _ _ _ _ (Eq.mp (by kernel_rfl) h)
  · intro σ w h
    obtain ⟨x0, e0, h⟩ := vP_elim h
    obtain ⟨x1, e1, h⟩ := vI_elim h
    refine J.sub ?_ (((Sub.base _).upd e0).upd e1)
    clear e0 e1
    refine J_seq (fun σ w => vP (σ 0) fun x0 => vI .u64 (σ 1) fun x1 => vS (σ 5) fun x5A x5n x5c => ref01_Reader_Upto.p1 K x0 x1 x5A x5n x5c w) ?_ ?_
    ·
      exact sh_sound _ _ _ _ (Eq.mp (by kernel_rfl) h)
    · intro σ w h
      obtain ⟨x0, e0, h⟩ := vP_elim h
      obtain ⟨x1, e1, h⟩ := vI_elim h
      obtain ⟨x5A, x5n, x5c, e5, h⟩ := vS_elim h
      refine J.sub ?_ ((((Sub.base _).upd e0).upd e1).upd e5)
      clear e0 e1 e5
      refine J_seq (fun σ w => vP (σ 0) fun x0 => vI .u64 (σ 1) fun x1 => vS (σ 5) fun x5A x5n x5c => vI .u64 (σ 6) fun x6 => ref01_Reader_Upto.p2 K x0 x1 x5A x5n x5c x6 w) ?_ ?_
      ·
        exact sh_sound _ _ _ _ (Eq.mp (by kernel_rfl) h)
      · intro σ w h
        obtain ⟨x0, e0, h⟩ := vP_elim h
        obtain ⟨x1, e1, h⟩ := vI_elim h
        obtain ⟨x5A, x5n, x5c, e5, h⟩ := vS_elim h
        obtain ⟨x6, e6, h⟩ := vI_elim h
        refine J.sub ?_ (((((Sub.base _).upd e0).upd e1).upd e5).upd e6)
        clear e0 e1 e5 e6
        refine J_seq (fun σ w => vI .u64 (σ 6) fun x6 => ref01_Reader_Upto.p4 K x6 w) ?_ ?_
        ·
          refine J_seq (fun σ w => vP (σ 0) fun x0 => vS (σ 5) fun x5A x5n x5c => vI .u64 (σ 6) fun x6 => vB (σ 22) fun x22 => ref01_Reader_Upto.p3 K x0 x5A x5n x5c x6 x22 w) ?_ ?_
          ·
            exact sh_sound _ _ _ _ (Eq.mp (by kernel_rfl) h)
          · intro σ w h
            obtain ⟨x0, e0, h⟩ := vP_elim h
            obtain ⟨x5A, x5n, x5c, e5, h⟩ := vS_elim h
            obtain ⟨x6, e6, h⟩ := vI_elim h
            obtain ⟨x22, e22, h⟩ := vB_elim h
            refine J.sub ?_ (((((Sub.base _).upd e0).upd e5).upd e6).upd e22)
            clear e0 e5 e6 e22
            exact sh_sound _ _ _ _ (Eq.mp (by kernel_rfl) h)
        · intro σ w h
          obtain ⟨x6, e6, h⟩ := vI_elim h
          refine J.sub ?_ ((Sub.base _).upd e6)
          clear e6
          exact sh_sound _ _ _ _ (Eq.mp (by kernel_rfl) h)

/-! ### (*hayloft/hayloftref01.Reader).Bytes: function 31 -/
abbrev ref01_Reader_Bytes.p2 (K : Value → World → Prop) (x0 : Option Addr) (x1 : Int) (w : World) : Prop :=
  ∃ (a3 : Addr), x0 = some a3 ∧ ∃ (A4 : Option Addr) (m5 : Nat) (c6 : Nat), w.cell? a3 = some (.slice A4 m5 c6) ∧ condP (decide (((m5 : Nat) : Int) < x1)) (∃ (a7 : Addr), x0 = some a7 ∧ canStore w (a7.add 1) ∧ wlet (w.setCell (a7.add 1) (.int .i64 3)) fun w8 => K (.slice none 0 0) w8) (wlet (w.alloc (.cells #[] 5)) fun w9 => ∃ (a10 : Addr), x0 = some a10 ∧ ∃ (A11 : Option Addr) (m12 : Nat) (c13 : Nat), w9.cell? a10 = some (.slice A11 m12 c13) ∧ (0 ≤ x1 ∧ x1 ≤ ((c13 : Nat) : Int)) ∧ SemJ Try.prog (Builtin.append_ #[23, 23] 23 #[.slice (some ⟨w.heap.size, 0, none⟩) 0 0, .slice (slA A11 0 c13 1) (x1.toNat - 0) (c13 - 0)]) (fun v14 w15 => ∃ (A16 : Option Addr) (m17 : Nat) (c18 : Nat), v14 = .slice A16 m17 c18 ∧ ∃ (a19 : Addr), x0 = some a19 ∧ ∃ (A20 : Option Addr) (m21 : Nat) (c22 : Nat), w15.cell? a19 = some (.slice A20 m21 c22) ∧ (0 ≤ x1 ∧ x1 ≤ ((m21 : Nat) : Int)) ∧ ∃ (a23 : Addr), x0 = some a23 ∧ canStore w15 a23 ∧ wlet (w15.setCell a23 (.slice (slA A20 x1.toNat c22 1) (m21 - x1.toNat) (c22 - x1.toNat))) fun w24 => K (.slice A16 m17 c18) w24) w9)
abbrev ref01_Reader_Bytes.p1 (K : Value → World → Prop) (x0 : Option Addr) (x1 : Int) (x14 : Bool) (w : World) : Prop :=
  condP x14 (K (.slice none 0 0) w) (ref01_Reader_Bytes.p2 K x0 x1 w)
abbrev ref01_Reader_Bytes.p0 (K : Value → World → Prop) (x0 : Option Addr) (x1 : Int) (w : World) : Prop :=
  ∃ (a1 : Addr), x0 = some a1 ∧ ∃ (n2 : Int), w.cell? (a1.add 1) = some (.int .i64 n2) ∧ condP (n2 != (0 : Int)) (ref01_Reader_Bytes.p1 K x0 x1 true w) (ref01_Reader_Bytes.p1 K x0 x1 (decide (x1 ≤ (0 : Int))) w)
abbrev ref01_Reader_Bytes.F (q0 : Option Addr) (q1 : Int) (K : Value → World → Prop) (w : World) : Prop :=
  ref01_Reader_Bytes.p0 K q0 q1 w
theorem ref01_Reader_Bytes.ok {q0 : Option Addr} {q1 : Int} {K : Value → World → Prop} {w : World} (h : ref01_Reader_Bytes.F q0 q1 K w) :
    CallsE Try.prog 31 #[.pointer q0, .int .i64 q1] w K := by
  refine calls_of_J (n := 43) (rs := [.tmp 4]) Try.func31 rfl rfl rfl rfl ?_
  refine J_seq (fun σ w => vP (σ 0) fun x0 => vI .i64 (σ 1) fun x1 => ref01_Reader_Bytes.p0 K x0 x1 w) ?_ ?_
  ·
    exact sh_sound _ _ _ _ (Eq.mp (by kernel_rfl) h)
  · intro σ w h
    obtain ⟨x0, e0, h⟩ := vP_elim h
    obtain ⟨x1, e1, h⟩ := vI_elim h
    refine J.sub ?_ (((Sub.base _).upd e0).upd e1)
    clear e0 e1
    refine J_seq (fun σ w => vP (σ 0) fun x0 => vI .i64 (σ 1) fun x1 => ref01_Reader_Bytes.p2 K x0 x1 w) ?_ ?_
    ·
      refine J_seq (fun σ w => vP (σ 0) fun x0 => vI .i64 (σ 1) fun x1 => vB (σ 14) fun x14 => ref01_Reader_Bytes.p1 K x0 x1 x14 w) ?_ ?_
      ·
        exact sh_sound _ _ _ _ (Eq.mp (by kernel_rfl) h)
      · intro σ w h
        obtain ⟨x0, e0, h⟩ := vP_elim h
        obtain ⟨x1, e1, h⟩ := vI_elim h
        obtain ⟨x14, e14, h⟩ := vB_elim h
        refine J.sub ?_ ((((Sub.base _).upd e0).upd e1).upd e14)
        clear e0 e1 e14
        exact sh_sound _ _ _ _ (Eq.mp (by kernel_rfl) h)
    · intro σ w h
      obtain ⟨x0, e0, h⟩ := vP_elim h
      obtain ⟨x1, e1, h⟩ := vI_elim h
      refine J.sub ?_ (((Sub.base _).upd e0).upd e1)
      clear e0 e1
      exact sh_sound _ _ _ _ (Eq.mp (by kernel_rfl) h)

/-! ### (*hayloft/num.Reader).Fail: function 32 -/
abbrev num_Reader_Fail.p0 (K : Value → World → Prop) (x0 : Option Addr) (x1 : Int) (x12 : Bool) (w : World) : Prop :=
  condP x12 (∃ (a3 : Addr), x0 = some a3 ∧ canStore w (a3.add 1) ∧ wlet (w.setCell (a3.add 1) (.int .i64 x1)) fun w4 => K (.tuple #[]) w4) (K (.tuple #[]) w)
abbrev num_Reader_Fail.F (q0 : Option Addr) (q1 : Int) (K : Value → World → Prop) (w : World) : Prop :=
  condP (!q0.isNone) (∃ (a1 : Addr), q0 = some a1 ∧ ∃ (n2 : Int), w.cell? (a1.add 1) = some (.int .i64 n2) ∧ num_Reader_Fail.p0 K q0 q1 (n2 == (0 : Int)) w) (num_Reader_Fail.p0 K q0 q1 false w)
theorem num_Reader_Fail.ok {q0 : Option Addr} {q1 : Int} {K : Value → World → Prop} {w : World} (h : num_Reader_Fail.F q0 q1 K w) :
    CallsE Try.prog 32 #[.pointer q0, .int .i64 q1] w K := by
  refine calls_of_J (n := 17) (rs := []) Try.func32 rfl rfl rfl rfl ?_
  refine J_seq (fun σ w => vP (σ 0) fun x0 => vI .i64 (σ 1) fun x1 => vB (σ 12) fun x12 => num_Reader_Fail.p0 K x0 x1 x12 w) ?_ ?_
  ·
    exact sh_sound _ _ _ _ (Eq.mp (by kernel_rfl) h)
  · intro σ w h
    obtain ⟨x0, e0, h⟩ := vP_elim h
    obtain ⟨x1, e1, h⟩ := vI_elim h
    obtain ⟨x12, e12, h⟩ := vB_elim h
    refine J.sub ?_ ((((Sub.base _).upd e0).upd e1).upd e12)
    clear e0 e1 e12
    exact sh_sound _ _ _ _ (Eq.mp (by kernel_rfl) h)

/-! ### (*hayloft/hayloftref01.Reader).Fail: function 33 -/
abbrev ref01_Reader_Fail.F (q0 : Option Addr) (q1 : Int) (K : Value → World → Prop) (w : World) : Prop :=
  ∃ (a1 : Addr), q0 = some a1 ∧ ∃ (n2 : Int), w.cell? (a1.add 1) = some (.int .i64 n2) ∧ condP (n2 == (0 : Int)) (∃ (a3 : Addr), q0 = some a3 ∧ canStore w (a3.add 1) ∧ wlet (w.setCell (a3.add 1) (.int .i64 q1)) fun w4 => K (.tuple #[]) w4) (K (.tuple #[]) w)
theorem ref01_Reader_Fail.ok {q0 : Option Addr} {q1 : Int} {K : Value → World → Prop} {w : World} (h : ref01_Reader_Fail.F q0 q1 K w) :
    CallsE Try.prog 33 #[.pointer q0, .int .i64 q1] w K := by
  refine calls_of_J (n := 13) (rs := []) Try.func33 rfl rfl rfl rfl ?_
  exact sh_sound _ _ _ _ (Eq.mp (by kernel_rfl) h)

/-! ### (*hayloft/hayloftref01.Reader).Rest: function 34 -/
abbrev ref01_Reader_Rest.F (q0 : Option Addr) (K : Value → World → Prop) (w : World) : Prop :=
  ∃ (a1 : Addr), q0 = some a1 ∧ ∃ (n2 : Int), w.cell? (a1.add 1) = some (.int .i64 n2) ∧ condP (n2 != (0 : Int)) (K (.int .i64 0) w) (∃ (a3 : Addr), q0 = some a3 ∧ ∃ (A4 : Option Addr) (m5 : Nat) (c6 : Nat), w.cell? a3 = some (.slice A4 m5 c6) ∧ K (.int .i64 ((m5 : Nat) : Int)) w)
theorem ref01_Reader_Rest.ok {q0 : Option Addr} {K : Value → World → Prop} {w : World} (h : ref01_Reader_Rest.F q0 K w) :
    CallsE Try.prog 34 #[.pointer q0] w K := by
  refine calls_of_J (n := 13) (rs := [.tmp 2]) Try.func34 rfl rfl rfl rfl ?_
  exact sh_sound _ _ _ _ (Eq.mp (by kernel_rfl) h)

/-! ### (*hayloft/hayloftref01.Reader).End: function 35 -/
abbrev ref01_Reader_End.p2 (K : Value → World → Prop) (x0 : Option Addr) (w : World) : Prop :=
  ∃ (a7 : Addr), x0 = some a7 ∧ ∃ (n8 : Int), w.cell? (a7.add 1) = some (.int .i64 n8) ∧ K (.int .i64 n8) w
abbrev ref01_Reader_End.p1 (K : Value → World → Prop) (x0 : Option Addr) (x15 : Bool) (w : World) : Prop :=
  condP x15 (K (.int .i64 6) w) (ref01_Reader_End.p2 K x0 w)
abbrev ref01_Reader_End.p0 (K : Value → World → Prop) (x0 : Option Addr) (w : World) : Prop :=
  ∃ (a1 : Addr), x0 = some a1 ∧ ∃ (n2 : Int), w.cell? (a1.add 1) = some (.int .i64 n2) ∧ condP (n2 == (0 : Int)) (∃ (a3 : Addr), x0 = some a3 ∧ ∃ (A4 : Option Addr) (m5 : Nat) (c6 : Nat), w.cell? a3 = some (.slice A4 m5 c6) ∧ ref01_Reader_End.p1 K x0 (decide ((0 : Int) < ((m5 : Nat) : Int))) w) (ref01_Reader_End.p1 K x0 false w)
abbrev ref01_Reader_End.F (q0 : Option Addr) (K : Value → World → Prop) (w : World) : Prop :=
  ref01_Reader_End.p0 K q0 w
theorem ref01_Reader_End.ok {q0 : Option Addr} {K : Value → World → Prop} {w : World} (h : ref01_Reader_End.F q0 K w) :
    CallsE Try.prog 35 #[.pointer q0] w K := by
  refine calls_of_J (n := 20) (rs := [.tmp 2]) Try.func35 rfl rfl rfl rfl ?_
  refine J_seq (fun σ w => vP (σ 0) fun x0 => ref01_Reader_End.p0 K x0 w) ?_ ?_
  ·
    exact sh_sound _ _ _ _ (Eq.mp (by kernel_rfl) h)
  · intro σ w h
    obtain ⟨x0, e0, h⟩ := vP_elim h
    refine J.sub ?_ ((Sub.base _).upd e0)
    clear e0
    refine J_seq (fun σ w => vP (σ 0) fun x0 => ref01_Reader_End.p2 K x0 w) ?_ ?_
    ·
      refine J_seq (fun σ w => vP (σ 0) fun x0 => vB (σ 15) fun x15 => ref01_Reader_End.p1 K x0 x15 w) ?_ ?_
      ·
        exact sh_sound _ _ _ _ (Eq.mp (by kernel_rfl) h)
      · intro σ w h
        obtain ⟨x0, e0, h⟩ := vP_elim h
        obtain ⟨x15, e15, h⟩ := vB_elim h
        refine J.sub ?_ (((Sub.base _).upd e0).upd e15)
        clear e0 e15
        exact sh_sound _ _ _ _ (Eq.mp (by kernel_rfl) h)
    · intro σ w h
      obtain ⟨x0, e0, h⟩ := vP_elim h
      refine J.sub ?_ ((Sub.base _).upd e0)
      clear e0
      exact sh_sound _ _ _ _ (Eq.mp (by kernel_rfl) h)

/-! ### hayloft/num.clamp: function 36 -/
abbrev num_clamp.F (q0 : Int) (K : Value → World → Prop) (w : World) : Prop :=
  K (.int .i64 (imax 0 (imin q0 8))) w
theorem num_clamp.ok {q0 : Int} {K : Value → World → Prop} {w : World} (h : num_clamp.F q0 K w) :
    CallsE Try.prog 36 #[.int .i64 q0] w K := by
  refine calls_of_J (n := 6) (rs := [.tmp 2]) Try.func36 rfl rfl rfl rfl ?_
  exact sh_sound _ _ _ _ (Eq.mp (by kernel_rfl) h)

/-! ### hayloft/hayloftref01.Width: function 37 -/
abbrev ref01_Width.F (q0 : Int) (K : Value → World → Prop) (w : World) : Prop :=
  condP (decide (q0 < (0 : Int))) (K (.int .i64 0) w) (condP (decide ((8 : Int) < q0)) (K (.int .i64 8) w) (K (.int .i64 q0) w))
theorem ref01_Width.ok {q0 : Int} {K : Value → World → Prop} {w : World} (h : ref01_Width.F q0 K w) :
    CallsE Try.prog 37 #[.int .i64 q0] w K := by
  refine calls_of_J (n := 8) (rs := [.tmp 2]) Try.func37 rfl rfl rfl rfl ?_
  exact sh_sound _ _ _ _ (Eq.mp (by kernel_rfl) h)

end Go.Proofs.Ytemgehocabfbkaa.F
