/-
  Printed by a program: for each Go function a proposition that says what it comes to, and the proof that the code comes to it. No condition beyond what each theorem states.
-/
import Derived.Test.YtebnmecioifijaaDoorProg
import Derived.Test.YtebnmecioifijaaDoorSh
set_option linter.unusedVariables false
set_option maxRecDepth 100000
namespace Go.Proofs.YtebnmecioifijaaDoor.F
open Go Go.RowKit Go.Proofs.YtebnmecioifijaaDoor Go.Proofs.YtebnmecioifijaaDoor.Sh

noncomputable abbrev Pg : Program := Tryd.prog
abbrev law03_SetParts.N : FuncId := 3
abbrev law03_SetCounts.N : FuncId := 4
abbrev law03_SetPlays.N : FuncId := 5
abbrev law03_SetApart.N : FuncId := 6
abbrev law03_SetNil.N : FuncId := 7
abbrev law03_SetReads.N : FuncId := 8
abbrev law03_SetBack.N : FuncId := 9
abbrev law03_alive.N : FuncId := 10
abbrev law03_plays.N : FuncId := 11
abbrev set_Set_Len.N : FuncId := 12
abbrev set_Set_First.N : FuncId := 13
abbrev set_Set_Gap.N : FuncId := 14
abbrev set_Set_Has.N : FuncId := 15
abbrev set_Set_Count.N : FuncId := 16
abbrev set_New.N : FuncId := 17
abbrev set_Set_Add.N : FuncId := 18
abbrev set_Set_List.N : FuncId := 19
abbrev ref03_Set_List.N : FuncId := 20
abbrev ref01_Ints.N : FuncId := 21
abbrev ref01_Same.N : FuncId := 22
abbrev set_Set_Bytes.N : FuncId := 23
abbrev ref03_Set_Bytes.N : FuncId := 24
abbrev set_Set_Copy.N : FuncId := 25
abbrev set_Set_Del.N : FuncId := 26
abbrev ref01_Copy.N : FuncId := 27
abbrev set_Read.N : FuncId := 28
abbrev ref03_Read.N : FuncId := 29
abbrev ref03_New.N : FuncId := 30
abbrev ref03_Set_Put.N : FuncId := 31
abbrev ref03_Set_Next.N : FuncId := 32
abbrev set_Set_next.N : FuncId := 33
abbrev math_bits_OnesCount64.N : FuncId := 34
abbrev math_bits_TrailingZeros64.N : FuncId := 35
abbrev api_Errno_Error.N : FuncId := 51
abbrev var_s_door_math_bits_deBruijn64tab_is_laid_by_its_own_initialiser_plain_data_look_11.N : FuncId := 54
abbrev Ty.int64 : TypeId := 2
abbrev Ty.int : TypeId := 3
abbrev Ty.bool : TypeId := 4
abbrev Ty.uint8 : TypeId := 5
abbrev Ty.abi_BoundsErrorCode : TypeId := 6
abbrev Ty.runtime_boundsError : TypeId := 8
abbrev Ty.string : TypeId := 9
abbrev Ty.runtime_errorString : TypeId := 10
abbrev Ty.runtime_plainError : TypeId := 11
abbrev Ty.uintptr : TypeId := 12
abbrev Ty.runtime_errorAddressString : TypeId := 14
abbrev Ty.p_runtime_TypeAssertionError : TypeId := 15
abbrev Ty.p_runtime_PanicNilError : TypeId := 16
abbrev Ty.p_abi_Type : TypeId := 17
abbrev Ty.maps_unhashableTypeError : TypeId := 19
abbrev Ty.int32 : TypeId := 21
abbrev Ty.uint16 : TypeId := 22
abbrev Ty.sl_law03_Call : TypeId := 23
abbrev Ty.p_set_Set : TypeId := 25
abbrev Ty.p_ref03_Set : TypeId := 26
abbrev Ty.sl_int : TypeId := 33
abbrev Ty.sl_bool : TypeId := 37
abbrev Ty.ref03_Set : TypeId := 39
abbrev Ty.sl_uint8 : TypeId := 42
abbrev Ty.law03_Call : TypeId := 47
abbrev Ty.api_Errno : TypeId := 50
abbrev Ty.sl_uint64 : TypeId := 59
abbrev Ty.set_Set : TypeId := 61
abbrev Ty.uint64 : TypeId := 63
abbrev Ty.uint : TypeId := 65
abbrev Ty.a64_uint8 : TypeId := 66
abbrev Ty.runtime_TypeAssertionError : TypeId := 69
abbrev Ty.a0_p_runtime_PanicNilError : TypeId := 70
abbrev Ty.runtime_PanicNilError : TypeId := 72
abbrev Ty.uint32 : TypeId := 73
abbrev Ty.abi_TFlag : TypeId := 74
abbrev Ty.abi_Kind : TypeId := 75
abbrev Ty.p_uint8 : TypeId := 77
abbrev Ty.abi_NameOff : TypeId := 78
abbrev Ty.abi_TypeOff : TypeId := 79
abbrev Ty.abi_Type : TypeId := 81
abbrev Ty.unsafe_Pointer : TypeId := 82

/-! ### hayloft/hayloftlaw03.SetParts: function 3 -/
abbrev law03_SetParts.p8 (L0 : Option Addr → Int → Int → Int → World → Prop) (K : Value → World → Prop) (x5 : Option Addr) (x8 : Int) (x9 : Int) (x10 : Int) (w : World) : Prop :=
  L0 x5 x8 x9 (IntKind.wrap .i64 (x10 + (1 : Int))) w
abbrev law03_SetParts.p9 (L0 : Option Addr → Int → Int → Int → World → Prop) (K : Value → World → Prop) (x5 : Option Addr) (x8 : Int) (x9 : Int) (x10 : Int) (x50 : Bool) (w : World) : Prop :=
  condP x50 (law03_SetParts.p8 L0 K x5 x8 (IntKind.wrap .i64 (x9 + (1 : Int))) x10 w) (K (.bool false) w)
abbrev law03_SetParts.p7 (L0 : Option Addr → Int → Int → Int → World → Prop) (K : Value → World → Prop) (x5 : Option Addr) (x8 : Int) (x9 : Int) (x10 : Int) (x30 : Bool) (w : World) : Prop :=
  condP x30 (law03_SetParts.p8 L0 K x5 (IntKind.wrap .i64 (x8 + (1 : Int))) x9 x10 w) (CallsE Tryd.prog 14 #[.pointer x5, .int .i64 x10] w (fun v21 w22 => ∃ (n23 : Int), v21 = .int .i64 n23 ∧ condP (n23 == x10) (CallsE Tryd.prog 13 #[.pointer x5, .int .i64 x10] w22 (fun v24 w25 => ∃ (n26 : Int), v24 = .int .i64 n26 ∧ condP (n26 != x10) (CallsE Tryd.prog 15 #[.pointer x5, .int .i64 x10] w25 (fun v27 w28 => ∃ (b29 : Bool), v27 = .bool b29 ∧ law03_SetParts.p9 L0 K x5 x8 x9 x10 (!b29) w28)) (law03_SetParts.p9 L0 K x5 x8 x9 x10 false w25))) (law03_SetParts.p9 L0 K x5 x8 x9 x10 false w22)))
abbrev law03_SetParts.p6 (L0 : Option Addr → Int → Int → Int → World → Prop) (K : Value → World → Prop) (x5 : Option Addr) (x8 : Int) (x9 : Int) (x10 : Int) (w : World) : Prop :=
  CallsE Tryd.prog 13 #[.pointer x5, .int .i64 x10] w (fun v12 w13 => ∃ (n14 : Int), v12 = .int .i64 n14 ∧ condP (n14 == x10) (CallsE Tryd.prog 14 #[.pointer x5, .int .i64 x10] w13 (fun v15 w16 => ∃ (n17 : Int), v15 = .int .i64 n17 ∧ condP (n17 != x10) (CallsE Tryd.prog 15 #[.pointer x5, .int .i64 x10] w16 (fun v18 w19 => ∃ (b20 : Bool), v18 = .bool b20 ∧ law03_SetParts.p7 L0 K x5 x8 x9 x10 b20 w19)) (law03_SetParts.p7 L0 K x5 x8 x9 x10 false w16))) (law03_SetParts.p7 L0 K x5 x8 x9 x10 false w13))
abbrev law03_SetParts.p11 (K : Value → World → Prop) (x4 : Bool) (w : World) : Prop :=
  K (.bool x4) w
abbrev law03_SetParts.p10 (K : Value → World → Prop) (x5 : Option Addr) (x8 : Int) (x9 : Int) (w : World) : Prop :=
  CallsE Tryd.prog 16 #[.pointer x5] w (fun v30 w31 => ∃ (n32 : Int), v30 = .int .i64 n32 ∧ condP (x8 == n32) (CallsE Tryd.prog 12 #[.pointer x5] w31 (fun v33 w34 => ∃ (n35 : Int), v33 = .int .i64 n35 ∧ condP ((IntKind.wrap .i64 (x8 + x9)) == n35) (CallsE Tryd.prog 12 #[.pointer x5] w34 (fun v36 w37 => ∃ (n38 : Int), v36 = .int .i64 n38 ∧ CallsE Tryd.prog 13 #[.pointer x5, .int .i64 n38] w37 (fun v39 w40 => ∃ (n41 : Int), v39 = .int .i64 n41 ∧ condP (n41 == (-1)) (CallsE Tryd.prog 12 #[.pointer x5] w40 (fun v42 w43 => ∃ (n44 : Int), v42 = .int .i64 n44 ∧ CallsE Tryd.prog 14 #[.pointer x5, .int .i64 n44] w43 (fun v45 w46 => ∃ (n47 : Int), v45 = .int .i64 n47 ∧ law03_SetParts.p11 K (n47 == (-1)) w46))) (law03_SetParts.p11 K false w40)))) (law03_SetParts.p11 K false w34))) (law03_SetParts.p11 K false w31))
abbrev law03_SetParts.b0 (L0 : Option Addr → Int → Int → Int → World → Prop) (K : Value → World → Prop) (x5 : Option Addr) (x8 : Int) (x9 : Int) (x10 : Int) (w : World) : Prop :=
  CallsE Tryd.prog 12 #[.pointer x5] w (fun v9 w10 => ∃ (n11 : Int), v9 = .int .i64 n11 ∧ condP (decide (x10 < n11)) (law03_SetParts.p6 L0 K x5 x8 x9 x10 w10) (law03_SetParts.p10 K x5 x8 x9 w10))
def law03_SetParts.l0 (K : Value → World → Prop) (k : Nat) : Option Addr → Int → Int → Int → World → Prop :=
  Nat.rec (motive := fun _ => Option Addr → Int → Int → Int → World → Prop) (fun _ _ _ _ _ => False) (fun _ ih => law03_SetParts.b0 ih K) k
theorem law03_SetParts.l0_succ (K : Value → World → Prop) (k : Nat) (x5 : Option Addr) (x8 : Int) (x9 : Int) (x10 : Int) (w : World) : law03_SetParts.l0 K (k + 1) x5 x8 x9 x10 w = law03_SetParts.b0 (law03_SetParts.l0 K k) K x5 x8 x9 x10 w := rfl
abbrev law03_SetParts.p5 (K : Value → World → Prop) (x5 : Option Addr) (x8 : Int) (x9 : Int) (x10 : Int) (w : World) : Prop :=
  ∃ k, law03_SetParts.l0 K k x5 x8 x9 x10 w
abbrev law03_SetParts.p4 (K : Value → World → Prop) (x5 : Option Addr) (x8 : Int) (x9 : Int) (w : World) : Prop :=
  law03_SetParts.p5 K x5 x8 x9 0 w
abbrev law03_SetParts.p3 (K : Value → World → Prop) (x5 : Option Addr) (w : World) : Prop :=
  law03_SetParts.p4 K x5 0 0 w
abbrev law03_SetParts.p2 (K : Value → World → Prop) (x5 : Option Addr) (x7 : Bool) (w : World) : Prop :=
  condP (!x7) (K (.bool false) w) (law03_SetParts.p3 K x5 w)
abbrev law03_SetParts.p1 (K : Value → World → Prop) (x0 : Int) (x1A : Option Addr) (x1n : Nat) (x1c : Nat) (w : World) : Prop :=
  (2000 : Int) ≠ 0 ∧ CallsE Tryd.prog 11 #[.int .i64 (IntKind.wrap .i64 (Int.tmod x0 2000)), .slice x1A x1n x1c] w (fun v4 w5 => ∃ (p6 : Option Addr) (p7 : Option Addr) (b8 : Bool), v4 = .tuple #[.pointer p6, .pointer p7, .bool b8] ∧ law03_SetParts.p2 K p6 b8 w5)
abbrev law03_SetParts.p0 (K : Value → World → Prop) (x0 : Int) (x1A : Option Addr) (x1n : Nat) (x1c : Nat) (w : World) : Prop :=
  CallsE Tryd.prog 10 #[] w (fun v1 w2 => ∃ (b3 : Bool), v1 = .bool b3 ∧ condP (!b3) (K (.bool false) w2) (law03_SetParts.p1 K x0 x1A x1n x1c w2))
abbrev law03_SetParts.F (q0 : Int) (q1A : Option Addr) (q1n : Nat) (q1c : Nat) (K : Value → World → Prop) (w : World) : Prop :=
  law03_SetParts.p0 K q0 q1A q1n q1c w
theorem law03_SetParts.ok {q0 : Int} {q1A : Option Addr} {q1n : Nat} {q1c : Nat} {K : Value → World → Prop} {w : World} (h : law03_SetParts.F q0 q1A q1n q1c K w) :
    CallsE Tryd.prog 3 #[.int .u16 q0, .slice q1A q1n q1c] w K := by
  refine calls_of_J (n := 97) (rs := [.tmp 4]) Tryd.func3 rfl rfl rfl rfl ?_
  refine J_seq (fun σ w => vI .u16 (σ 0) fun x0 => vS (σ 1) fun x1A x1n x1c => law03_SetParts.p0 K x0 x1A x1n x1c w) ?_ ?_
  ·
    exact sh_sound _ _ _ _ (Eq.mp (by kernel_rfl) h)
  · intro σ w h
    obtain ⟨x0, e0, h⟩ := vI_elim h
    obtain ⟨x1A, x1n, x1c, e1, h⟩ := vS_elim h
    refine J.sub ?_ (((Sub.base _).upd e0).upd e1)
    clear e0 e1
    refine J_seq (fun σ w => vI .u16 (σ 0) fun x0 => vS (σ 1) fun x1A x1n x1c => law03_SetParts.p1 K x0 x1A x1n x1c w) ?_ ?_
    ·
      exact sh_sound _ _ _ _ (Eq.mp (by kernel_rfl) h)
    · intro σ w h
      obtain ⟨x0, e0, h⟩ := vI_elim h
      obtain ⟨x1A, x1n, x1c, e1, h⟩ := vS_elim h
      refine J.sub ?_ (((Sub.base _).upd e0).upd e1)
      clear e0 e1
      refine J_seq (fun σ w => vP (σ 5) fun x5 => vB (σ 7) fun x7 => law03_SetParts.p2 K x5 x7 w) ?_ ?_
      ·
        exact sh_sound _ _ _ _ (Eq.mp (by kernel_rfl) h)
      · intro σ w h
        obtain ⟨x5, e5, h⟩ := vP_elim h
        obtain ⟨x7, e7, h⟩ := vB_elim h
        refine J.sub ?_ (((Sub.base _).upd e5).upd e7)
        clear e5 e7
        refine J_seq (fun σ w => vP (σ 5) fun x5 => law03_SetParts.p3 K x5 w) ?_ ?_
        ·
          exact sh_sound _ _ _ _ (Eq.mp (by kernel_rfl) h)
        · intro σ w h
          obtain ⟨x5, e5, h⟩ := vP_elim h
          refine J.sub ?_ ((Sub.base _).upd e5)
          clear e5
          refine J_seq (fun σ w => vP (σ 5) fun x5 => vI .i64 (σ 8) fun x8 => vI .i64 (σ 9) fun x9 => law03_SetParts.p4 K x5 x8 x9 w) ?_ ?_
          ·
            exact sh_sound _ _ _ _ (Eq.mp (by kernel_rfl) h)
          · intro σ w h
            obtain ⟨x5, e5, h⟩ := vP_elim h
            obtain ⟨x8, e8, h⟩ := vI_elim h
            obtain ⟨x9, e9, h⟩ := vI_elim h
            refine J.sub ?_ ((((Sub.base _).upd e5).upd e8).upd e9)
            clear e5 e8 e9
            refine J_seq (fun σ w => vP (σ 5) fun x5 => vI .i64 (σ 8) fun x8 => vI .i64 (σ 9) fun x9 => law03_SetParts.p10 K x5 x8 x9 w) ?_ ?_
            ·
              refine J_seq (fun σ w => vP (σ 5) fun x5 => vI .i64 (σ 8) fun x8 => vI .i64 (σ 9) fun x9 => vI .i64 (σ 10) fun x10 => law03_SetParts.p5 K x5 x8 x9 x10 w) ?_ ?_
              ·
                exact sh_sound _ _ _ _ (Eq.mp (by kernel_rfl) h)
              · intro σ w h
                obtain ⟨x5, e5, h⟩ := vP_elim h
                obtain ⟨x8, e8, h⟩ := vI_elim h
                obtain ⟨x9, e9, h⟩ := vI_elim h
                obtain ⟨x10, e10, h⟩ := vI_elim h
                refine J.sub ?_ (((((Sub.base _).upd e5).upd e8).upd e9).upd e10)
                clear e5 e8 e9 e10
                refine J_block ?_
                refine J_loop (fun k σ w => vP (σ 5) fun x5 => vI .i64 (σ 8) fun x8 => vI .i64 (σ 9) fun x9 => vI .i64 (σ 10) fun x10 => law03_SetParts.l0 K k x5 x8 x9 x10 w) (Eq.mp (by kernel_rfl) h) ?_ ?_
                · intro σ w h
                  obtain ⟨x5, e5, h⟩ := vP_elim h
                  obtain ⟨x8, e8, h⟩ := vI_elim h
                  obtain ⟨x9, e9, h⟩ := vI_elim h
                  obtain ⟨x10, e10, h⟩ := vI_elim h
                  exact h
                · intro k0 σ w h
                  obtain ⟨x5, e5, h⟩ := vP_elim h
                  obtain ⟨x8, e8, h⟩ := vI_elim h
                  obtain ⟨x9, e9, h⟩ := vI_elim h
                  obtain ⟨x10, e10, h⟩ := vI_elim h
                  refine J.sub ?_ (((((Sub.base _).upd e5).upd e8).upd e9).upd e10)
                  clear e5 e8 e9 e10
                  refine J_seq (fun σ w => vP (σ 5) fun x5 => vI .i64 (σ 8) fun x8 => vI .i64 (σ 9) fun x9 => vI .i64 (σ 10) fun x10 => law03_SetParts.p6 (law03_SetParts.l0 K k0) K x5 x8 x9 x10 w) ?_ ?_
                  ·
                    exact sh_sound _ _ _ _ (Eq.mp (by kernel_rfl) h)
                  · intro σ w h
                    obtain ⟨x5, e5, h⟩ := vP_elim h
                    obtain ⟨x8, e8, h⟩ := vI_elim h
                    obtain ⟨x9, e9, h⟩ := vI_elim h
                    obtain ⟨x10, e10, h⟩ := vI_elim h
                    refine J.sub ?_ (((((Sub.base _).upd e5).upd e8).upd e9).upd e10)
                    clear e5 e8 e9 e10
                    refine J_seq (fun σ w => vP (σ 5) fun x5 => vI .i64 (σ 8) fun x8 => vI .i64 (σ 9) fun x9 => vI .i64 (σ 10) fun x10 => law03_SetParts.p8 (law03_SetParts.l0 K k0) K x5 x8 x9 x10 w) ?_ ?_
                    ·
                      refine J_block ?_
                      refine J_block ?_
                      refine J_seq (fun σ w => vP (σ 5) fun x5 => vI .i64 (σ 8) fun x8 => vI .i64 (σ 9) fun x9 => vI .i64 (σ 10) fun x10 => vB (σ 30) fun x30 => law03_SetParts.p7 (law03_SetParts.l0 K k0) K x5 x8 x9 x10 x30 w) ?_ ?_
                      ·
                        exact sh_sound _ _ _ _ (Eq.mp (by kernel_rfl) h)
                      · intro σ w h
                        obtain ⟨x5, e5, h⟩ := vP_elim h
                        obtain ⟨x8, e8, h⟩ := vI_elim h
                        obtain ⟨x9, e9, h⟩ := vI_elim h
                        obtain ⟨x10, e10, h⟩ := vI_elim h
                        obtain ⟨x30, e30, h⟩ := vB_elim h
                        refine J.sub ?_ ((((((Sub.base _).upd e5).upd e8).upd e9).upd e10).upd e30)
                        clear e5 e8 e9 e10 e30
                        refine J_cond' h (by kernel_rfl) (fun h => ?_) (fun h => ?_)
                        ·
                          exact sh_sound _ _ _ _ (Eq.mp (by kernel_rfl) h)
                        ·
                          refine J_seq (fun σ w => vP (σ 5) fun x5 => vI .i64 (σ 8) fun x8 => vI .i64 (σ 9) fun x9 => vI .i64 (σ 10) fun x10 => vB (σ 50) fun x50 => law03_SetParts.p9 (law03_SetParts.l0 K k0) K x5 x8 x9 x10 x50 w) ?_ ?_
                          ·
                            exact sh_sound _ _ _ _ (Eq.mp (by kernel_rfl) h)
                          · intro σ w h
                            obtain ⟨x5, e5, h⟩ := vP_elim h
                            obtain ⟨x8, e8, h⟩ := vI_elim h
                            obtain ⟨x9, e9, h⟩ := vI_elim h
                            obtain ⟨x10, e10, h⟩ := vI_elim h
                            obtain ⟨x50, e50, h⟩ := vB_elim h
                            refine J.sub ?_ ((((((Sub.base _).upd e5).upd e8).upd e9).upd e10).upd e50)
                            clear e5 e8 e9 e10 e50
                            exact sh_sound _ _ _ _ (Eq.mp (by kernel_rfl) h)
                    · intro σ w h
                      obtain ⟨x5, e5, h⟩ := vP_elim h
                      obtain ⟨x8, e8, h⟩ := vI_elim h
                      obtain ⟨x9, e9, h⟩ := vI_elim h
                      obtain ⟨x10, e10, h⟩ := vI_elim h
                      refine J.sub ?_ (((((Sub.base _).upd e5).upd e8).upd e9).upd e10)
                      clear e5 e8 e9 e10
                      exact sh_sound _ _ _ _ (Eq.mp (by kernel_rfl) h)
            · intro σ w h
              obtain ⟨x5, e5, h⟩ := vP_elim h
              obtain ⟨x8, e8, h⟩ := vI_elim h
              obtain ⟨x9, e9, h⟩ := vI_elim h
              refine J.sub ?_ ((((Sub.base _).upd e5).upd e8).upd e9)
              clear e5 e8 e9
              refine J_seq (fun σ w => vB (σ 4) fun x4 => law03_SetParts.p11 K x4 w) ?_ ?_
              ·
                exact sh_sound _ _ _ _ (Eq.mp (by kernel_rfl) h)
              · intro σ w h
                obtain ⟨x4, e4, h⟩ := vB_elim h
                refine J.sub ?_ ((Sub.base _).upd e4)
                clear e4
                exact sh_sound _ _ _ _ (Eq.mp (by kernel_rfl) h)

/-! ### hayloft/hayloftlaw03.SetCounts: function 4 -/
abbrev law03_SetCounts.p9 (L0 : Option Addr → Nat → Nat → Option Addr → Int → Int → World → Prop) (K : Value → World → Prop) (x1A : Option Addr) (x1n : Nat) (x1c : Nat) (x5 : Option Addr) (x6 : Int) (x7 : Int) (w : World) : Prop :=
  L0 x1A x1n x1c x5 x6 (IntKind.wrap .i64 (x7 + (1 : Int))) w
abbrev law03_SetCounts.p8 (L0 : Option Addr → Nat → Nat → Option Addr → Int → Int → World → Prop) (K : Value → World → Prop) (x1A : Option Addr) (x1n : Nat) (x1c : Nat) (x5 : Option Addr) (x6 : Int) (x7 : Int) (x52 : Bool) (w : World) : Prop :=
  condP x52 (K (.bool false) w) (law03_SetCounts.p9 L0 K x1A x1n x1c x5 x6 x7 w)
abbrev law03_SetCounts.p7 (L0 : Option Addr → Nat → Nat → Option Addr → Int → Int → World → Prop) (K : Value → World → Prop) (x1A : Option Addr) (x1n : Nat) (x1c : Nat) (x5 : Option Addr) (x6 : Int) (x7 : Int) (w : World) : Prop :=
  ∃ (S12 : Array Obj → Prop), S12 w.heap ∧ (0 ≤ x7 ∧ x7 < ((x1n : Nat) : Int)) ∧ ∃ (a13 : Addr), x1A = some a13 ∧ (0 ≤ x7 ∧ x7 < ((x1n : Nat) : Int)) ∧ ∃ (a14 : Addr), x1A = some a14 ∧ ∃ (n15 : Int), (∀ w' : World, S12 w'.heap → w'.cell? (a13.add x7.toNat) = some (.int .i64 n15)) ∧ ∃ (n16 : Int), (∀ w' : World, S12 w'.heap → w'.cell? (a14.add x7.toNat) = some (.int .i64 n16)) ∧ CallsE Tryd.prog 15 #[.pointer x5, .int .i64 n15] w (fun v17 w18 => ∃ (b19 : Bool), v17 = .bool b19 ∧ S12 w18.heap ∧ condP (decide ((0 : Int) ≤ n16)) ((0 ≤ x7 ∧ x7 < ((x1n : Nat) : Int)) ∧ ∃ (a20 : Addr), x1A = some a20 ∧ ∃ (n21 : Int), (∀ w' : World, S12 w'.heap → w'.cell? (a20.add x7.toNat) = some (.int .i64 n21)) ∧ CallsE Tryd.prog 12 #[.pointer x5] w18 (fun v22 w23 => ∃ (n24 : Int), v22 = .int .i64 n24 ∧ S12 w23.heap ∧ law03_SetCounts.p8 L0 K x1A x1n x1c x5 x6 x7 (!(b19 == (decide (n21 < n24)))) w23)) (law03_SetCounts.p8 L0 K x1A x1n x1c x5 x6 x7 (!(b19 == false)) w18))
abbrev law03_SetCounts.p6 (L0 : Option Addr → Nat → Nat → Option Addr → Int → Int → World → Prop) (K : Value → World → Prop) (x1A : Option Addr) (x1n : Nat) (x1c : Nat) (x5 : Option Addr) (x6 : Int) (x7 : Int) (w : World) : Prop :=
  (0 ≤ x7 ∧ x7 < ((x1n : Nat) : Int)) ∧ ∃ (a7 : Addr), x1A = some a7 ∧ ∃ (n8 : Int), w.cell? (a7.add x7.toNat) = some (.int .i64 n8) ∧ CallsE Tryd.prog 18 #[.pointer x5, .int .i64 n8] w (fun v9 w10 => ∃ (b11 : Bool), v9 = .bool b11 ∧ condP b11 (law03_SetCounts.p7 L0 K x1A x1n x1c x5 (IntKind.wrap .i64 (x6 + (1 : Int))) x7 w10) (law03_SetCounts.p7 L0 K x1A x1n x1c x5 x6 x7 w10))
abbrev law03_SetCounts.p17 (L1 : Option Addr → Int → Option Addr → Nat → Nat → Int → Int → World → Prop) (K : Value → World → Prop) (x5 : Option Addr) (x6 : Int) (x8A : Option Addr) (x8n : Nat) (x8c : Nat) (x56 : Int) (x57 : Int) (w : World) : Prop :=
  L1 x5 x6 x8A x8n x8c x56 (IntKind.wrap .i64 (x57 + (1 : Int))) w
abbrev law03_SetCounts.p16 (L1 : Option Addr → Int → Option Addr → Nat → Nat → Int → Int → World → Prop) (K : Value → World → Prop) (x5 : Option Addr) (x6 : Int) (x8A : Option Addr) (x8n : Nat) (x8c : Nat) (x56 : Int) (x57 : Int) (x82 : Bool) (w : World) : Prop :=
  condP x82 (K (.bool false) w) (law03_SetCounts.p17 L1 K x5 x6 x8A x8n x8c x56 x57 w)
abbrev law03_SetCounts.p15 (L1 : Option Addr → Int → Option Addr → Nat → Nat → Int → Int → World → Prop) (K : Value → World → Prop) (x5 : Option Addr) (x6 : Int) (x8A : Option Addr) (x8n : Nat) (x8c : Nat) (x9 : Int) (x56 : Int) (x57 : Int) (w : World) : Prop :=
  ∃ (S30 : Array Obj → Prop), S30 w.heap ∧ (0 ≤ x9 ∧ x9 < ((x8n : Nat) : Int)) ∧ ∃ (a31 : Addr), x8A = some a31 ∧ ∃ (n32 : Int), (∀ w' : World, S30 w'.heap → w'.cell? (a31.add x9.toNat) = some (.int .i64 n32)) ∧ CallsE Tryd.prog 15 #[.pointer x5, .int .i64 n32] w (fun v33 w34 => ∃ (b35 : Bool), v33 = .bool b35 ∧ S30 w34.heap ∧ condP (!b35) (law03_SetCounts.p16 L1 K x5 x6 x8A x8n x8c x56 x57 true w34) (condP (decide ((0 : Int) < x9)) ((0 ≤ x9 ∧ x9 < ((x8n : Nat) : Int)) ∧ ∃ (a36 : Addr), x8A = some a36 ∧ (0 ≤ (IntKind.wrap .i64 (x9 - (1 : Int))) ∧ (IntKind.wrap .i64 (x9 - (1 : Int))) < ((x8n : Nat) : Int)) ∧ ∃ (a37 : Addr), x8A = some a37 ∧ ∃ (n38 : Int), (∀ w' : World, S30 w'.heap → w'.cell? (a36.add x9.toNat) = some (.int .i64 n38)) ∧ ∃ (n39 : Int), (∀ w' : World, S30 w'.heap → w'.cell? (a37.add ((IntKind.wrap .i64 (x9 - (1 : Int))).toNat)) = some (.int .i64 n39)) ∧ law03_SetCounts.p16 L1 K x5 x6 x8A x8n x8c x56 x57 (decide (n38 ≤ n39)) w34) (law03_SetCounts.p16 L1 K x5 x6 x8A x8n x8c x56 x57 false w34)))
abbrev law03_SetCounts.p14 (L1 : Option Addr → Int → Option Addr → Nat → Nat → Int → Int → World → Prop) (K : Value → World → Prop) (x5 : Option Addr) (x6 : Int) (x8A : Option Addr) (x8n : Nat) (x8c : Nat) (x56 : Int) (x57 : Int) (w : World) : Prop :=
  law03_SetCounts.p15 L1 K x5 x6 x8A x8n x8c x57 x56 x57 w
abbrev law03_SetCounts.p19 (K : Value → World → Prop) (x4 : Bool) (w : World) : Prop :=
  K (.bool x4) w
abbrev law03_SetCounts.p18 (K : Value → World → Prop) (x5 : Option Addr) (x6 : Int) (x8A : Option Addr) (x8n : Nat) (x8c : Nat) (w : World) : Prop :=
  condP (((x8n : Nat) : Int) == x6) (CallsE Tryd.prog 16 #[.pointer x5] w (fun v40 w41 => ∃ (n42 : Int), v40 = .int .i64 n42 ∧ law03_SetCounts.p19 K (n42 == x6) w41)) (law03_SetCounts.p19 K false w)
abbrev law03_SetCounts.p13 (L1 : Option Addr → Int → Option Addr → Nat → Nat → Int → Int → World → Prop) (K : Value → World → Prop) (x5 : Option Addr) (x6 : Int) (x8A : Option Addr) (x8n : Nat) (x8c : Nat) (x56 : Int) (x57 : Int) (x58 : Bool) (w : World) : Prop :=
  condP x58 (law03_SetCounts.p14 L1 K x5 x6 x8A x8n x8c x56 x57 w) (law03_SetCounts.p18 K x5 x6 x8A x8n x8c w)
abbrev law03_SetCounts.b1 (L1 : Option Addr → Int → Option Addr → Nat → Nat → Int → Int → World → Prop) (K : Value → World → Prop) (x5 : Option Addr) (x6 : Int) (x8A : Option Addr) (x8n : Nat) (x8c : Nat) (x56 : Int) (x57 : Int) (w : World) : Prop :=
  law03_SetCounts.p13 L1 K x5 x6 x8A x8n x8c x56 x57 (decide (x57 < x56)) w
def law03_SetCounts.l1 (K : Value → World → Prop) (k : Nat) : Option Addr → Int → Option Addr → Nat → Nat → Int → Int → World → Prop :=
  Nat.rec (motive := fun _ => Option Addr → Int → Option Addr → Nat → Nat → Int → Int → World → Prop) (fun _ _ _ _ _ _ _ _ => False) (fun _ ih => law03_SetCounts.b1 ih K) k
theorem law03_SetCounts.l1_succ (K : Value → World → Prop) (k : Nat) (x5 : Option Addr) (x6 : Int) (x8A : Option Addr) (x8n : Nat) (x8c : Nat) (x56 : Int) (x57 : Int) (w : World) : law03_SetCounts.l1 K (k + 1) x5 x6 x8A x8n x8c x56 x57 w = law03_SetCounts.b1 (law03_SetCounts.l1 K k) K x5 x6 x8A x8n x8c x56 x57 w := rfl
abbrev law03_SetCounts.p12 (K : Value → World → Prop) (x5 : Option Addr) (x6 : Int) (x8A : Option Addr) (x8n : Nat) (x8c : Nat) (x56 : Int) (x57 : Int) (w : World) : Prop :=
  ∃ k, law03_SetCounts.l1 K k x5 x6 x8A x8n x8c x56 x57 w
abbrev law03_SetCounts.p11 (K : Value → World → Prop) (x5 : Option Addr) (x6 : Int) (x8A : Option Addr) (x8n : Nat) (x8c : Nat) (w : World) : Prop :=
  law03_SetCounts.p12 K x5 x6 x8A x8n x8c ((x8n : Nat) : Int) 0 w
abbrev law03_SetCounts.p10 (K : Value → World → Prop) (x5 : Option Addr) (x6 : Int) (w : World) : Prop :=
  CallsE Tryd.prog 19 #[.pointer x5] w (fun v25 w26 => ∃ (A27 : Option Addr) (m28 : Nat) (c29 : Nat), v25 = .slice A27 m28 c29 ∧ law03_SetCounts.p11 K x5 x6 A27 m28 c29 w26)
abbrev law03_SetCounts.p5 (L0 : Option Addr → Nat → Nat → Option Addr → Int → Int → World → Prop) (K : Value → World → Prop) (x1A : Option Addr) (x1n : Nat) (x1c : Nat) (x5 : Option Addr) (x6 : Int) (x7 : Int) (x21 : Bool) (w : World) : Prop :=
  condP x21 (law03_SetCounts.p6 L0 K x1A x1n x1c x5 x6 x7 w) (law03_SetCounts.p10 K x5 x6 w)
abbrev law03_SetCounts.b0 (L0 : Option Addr → Nat → Nat → Option Addr → Int → Int → World → Prop) (K : Value → World → Prop) (x1A : Option Addr) (x1n : Nat) (x1c : Nat) (x5 : Option Addr) (x6 : Int) (x7 : Int) (w : World) : Prop :=
  condP (decide (x7 < ((x1n : Nat) : Int))) (law03_SetCounts.p5 L0 K x1A x1n x1c x5 x6 x7 (decide (x7 < (500 : Int))) w) (law03_SetCounts.p5 L0 K x1A x1n x1c x5 x6 x7 false w)
def law03_SetCounts.l0 (K : Value → World → Prop) (k : Nat) : Option Addr → Nat → Nat → Option Addr → Int → Int → World → Prop :=
  Nat.rec (motive := fun _ => Option Addr → Nat → Nat → Option Addr → Int → Int → World → Prop) (fun _ _ _ _ _ _ _ => False) (fun _ ih => law03_SetCounts.b0 ih K) k
theorem law03_SetCounts.l0_succ (K : Value → World → Prop) (k : Nat) (x1A : Option Addr) (x1n : Nat) (x1c : Nat) (x5 : Option Addr) (x6 : Int) (x7 : Int) (w : World) : law03_SetCounts.l0 K (k + 1) x1A x1n x1c x5 x6 x7 w = law03_SetCounts.b0 (law03_SetCounts.l0 K k) K x1A x1n x1c x5 x6 x7 w := rfl
abbrev law03_SetCounts.p4 (K : Value → World → Prop) (x1A : Option Addr) (x1n : Nat) (x1c : Nat) (x5 : Option Addr) (x6 : Int) (x7 : Int) (w : World) : Prop :=
  ∃ k, law03_SetCounts.l0 K k x1A x1n x1c x5 x6 x7 w
abbrev law03_SetCounts.p3 (K : Value → World → Prop) (x1A : Option Addr) (x1n : Nat) (x1c : Nat) (x5 : Option Addr) (x6 : Int) (w : World) : Prop :=
  law03_SetCounts.p4 K x1A x1n x1c x5 x6 0 w
abbrev law03_SetCounts.p2 (K : Value → World → Prop) (x1A : Option Addr) (x1n : Nat) (x1c : Nat) (x5 : Option Addr) (w : World) : Prop :=
  law03_SetCounts.p3 K x1A x1n x1c x5 0 w
abbrev law03_SetCounts.p1 (K : Value → World → Prop) (x0 : Int) (x1A : Option Addr) (x1n : Nat) (x1c : Nat) (w : World) : Prop :=
  CallsE Tryd.prog 17 #[.int .i64 x0] w (fun v4 w5 => ∃ (p6 : Option Addr), v4 = .pointer p6 ∧ law03_SetCounts.p2 K x1A x1n x1c p6 w5)
abbrev law03_SetCounts.p0 (K : Value → World → Prop) (x0 : Int) (x1A : Option Addr) (x1n : Nat) (x1c : Nat) (w : World) : Prop :=
  CallsE Tryd.prog 10 #[] w (fun v1 w2 => ∃ (b3 : Bool), v1 = .bool b3 ∧ condP (!b3) (K (.bool false) w2) (law03_SetCounts.p1 K x0 x1A x1n x1c w2))
abbrev law03_SetCounts.F (q0 : Int) (q1A : Option Addr) (q1n : Nat) (q1c : Nat) (K : Value → World → Prop) (w : World) : Prop :=
  law03_SetCounts.p0 K q0 q1A q1n q1c w
theorem law03_SetCounts.ok {q0 : Int} {q1A : Option Addr} {q1n : Nat} {q1c : Nat} {K : Value → World → Prop} {w : World} (h : law03_SetCounts.F q0 q1A q1n q1c K w) :
    CallsE Tryd.prog 4 #[.int .i64 q0, .slice q1A q1n q1c] w K := by
  refine calls_of_J (n := 94) (rs := [.tmp 4]) Tryd.func4 rfl rfl rfl rfl ?_
  refine J_seq (fun σ w => vI .i64 (σ 0) fun x0 => vS (σ 1) fun x1A x1n x1c => law03_SetCounts.p0 K x0 x1A x1n x1c w) ?_ ?_
  ·
    exact sh_sound _ _ _ _ (Eq.mp (by kernel_rfl) h)
  · intro σ w h
    obtain ⟨x0, e0, h⟩ := vI_elim h
    obtain ⟨x1A, x1n, x1c, e1, h⟩ := vS_elim h
    refine J.sub ?_ (((Sub.base _).upd e0).upd e1)
    clear e0 e1
    refine J_seq (fun σ w => vI .i64 (σ 0) fun x0 => vS (σ 1) fun x1A x1n x1c => law03_SetCounts.p1 K x0 x1A x1n x1c w) ?_ ?_
    ·
      exact sh_sound _ _ _ _ (Eq.mp (by kernel_rfl) h)
    · intro σ w h
      obtain ⟨x0, e0, h⟩ := vI_elim h
      obtain ⟨x1A, x1n, x1c, e1, h⟩ := vS_elim h
      refine J.sub ?_ (((Sub.base _).upd e0).upd e1)
      clear e0 e1
      refine J_seq (fun σ w => vS (σ 1) fun x1A x1n x1c => vP (σ 5) fun x5 => law03_SetCounts.p2 K x1A x1n x1c x5 w) ?_ ?_
      ·
        exact sh_sound _ _ _ _ (Eq.mp (by kernel_rfl) h)
      · intro σ w h
        obtain ⟨x1A, x1n, x1c, e1, h⟩ := vS_elim h
        obtain ⟨x5, e5, h⟩ := vP_elim h
        refine J.sub ?_ (((Sub.base _).upd e1).upd e5)
        clear e1 e5
        refine J_seq (fun σ w => vS (σ 1) fun x1A x1n x1c => vP (σ 5) fun x5 => vI .i64 (σ 6) fun x6 => law03_SetCounts.p3 K x1A x1n x1c x5 x6 w) ?_ ?_
        ·
          exact sh_sound _ _ _ _ (Eq.mp (by kernel_rfl) h)
        · intro σ w h
          obtain ⟨x1A, x1n, x1c, e1, h⟩ := vS_elim h
          obtain ⟨x5, e5, h⟩ := vP_elim h
          obtain ⟨x6, e6, h⟩ := vI_elim h
          refine J.sub ?_ ((((Sub.base _).upd e1).upd e5).upd e6)
          clear e1 e5 e6
          refine J_seq (fun σ w => vP (σ 5) fun x5 => vI .i64 (σ 6) fun x6 => law03_SetCounts.p10 K x5 x6 w) ?_ ?_
          ·
            refine J_seq (fun σ w => vS (σ 1) fun x1A x1n x1c => vP (σ 5) fun x5 => vI .i64 (σ 6) fun x6 => vI .i64 (σ 7) fun x7 => law03_SetCounts.p4 K x1A x1n x1c x5 x6 x7 w) ?_ ?_
            ·
              exact sh_sound _ _ _ _ (Eq.mp (by kernel_rfl) h)
            · intro σ w h
              obtain ⟨x1A, x1n, x1c, e1, h⟩ := vS_elim h
              obtain ⟨x5, e5, h⟩ := vP_elim h
              obtain ⟨x6, e6, h⟩ := vI_elim h
              obtain ⟨x7, e7, h⟩ := vI_elim h
              refine J.sub ?_ (((((Sub.base _).upd e1).upd e5).upd e6).upd e7)
              clear e1 e5 e6 e7
              refine J_block ?_
              refine J_loop (fun k σ w => vS (σ 1) fun x1A x1n x1c => vP (σ 5) fun x5 => vI .i64 (σ 6) fun x6 => vI .i64 (σ 7) fun x7 => law03_SetCounts.l0 K k x1A x1n x1c x5 x6 x7 w) (Eq.mp (by kernel_rfl) h) ?_ ?_
              · intro σ w h
                obtain ⟨x1A, x1n, x1c, e1, h⟩ := vS_elim h
                obtain ⟨x5, e5, h⟩ := vP_elim h
                obtain ⟨x6, e6, h⟩ := vI_elim h
                obtain ⟨x7, e7, h⟩ := vI_elim h
                exact h
              · intro k0 σ w h
                obtain ⟨x1A, x1n, x1c, e1, h⟩ := vS_elim h
                obtain ⟨x5, e5, h⟩ := vP_elim h
                obtain ⟨x6, e6, h⟩ := vI_elim h
                obtain ⟨x7, e7, h⟩ := vI_elim h
                refine J.sub ?_ (((((Sub.base _).upd e1).upd e5).upd e6).upd e7)
                clear e1 e5 e6 e7
                refine J_seq (fun σ w => vS (σ 1) fun x1A x1n x1c => vP (σ 5) fun x5 => vI .i64 (σ 6) fun x6 => vI .i64 (σ 7) fun x7 => law03_SetCounts.p6 (law03_SetCounts.l0 K k0) K x1A x1n x1c x5 x6 x7 w) ?_ ?_
                ·
                  refine J_seq (fun σ w => vS (σ 1) fun x1A x1n x1c => vP (σ 5) fun x5 => vI .i64 (σ 6) fun x6 => vI .i64 (σ 7) fun x7 => vB (σ 21) fun x21 => law03_SetCounts.p5 (law03_SetCounts.l0 K k0) K x1A x1n x1c x5 x6 x7 x21 w) ?_ ?_
                  ·
                    exact sh_sound _ _ _ _ (Eq.mp (by kernel_rfl) h)
                  · intro σ w h
                    obtain ⟨x1A, x1n, x1c, e1, h⟩ := vS_elim h
                    obtain ⟨x5, e5, h⟩ := vP_elim h
                    obtain ⟨x6, e6, h⟩ := vI_elim h
                    obtain ⟨x7, e7, h⟩ := vI_elim h
                    obtain ⟨x21, e21, h⟩ := vB_elim h
                    refine J.sub ?_ ((((((Sub.base _).upd e1).upd e5).upd e6).upd e7).upd e21)
                    clear e1 e5 e6 e7 e21
                    exact sh_sound _ _ _ _ (Eq.mp (by kernel_rfl) h)
                · intro σ w h
                  obtain ⟨x1A, x1n, x1c, e1, h⟩ := vS_elim h
                  obtain ⟨x5, e5, h⟩ := vP_elim h
                  obtain ⟨x6, e6, h⟩ := vI_elim h
                  obtain ⟨x7, e7, h⟩ := vI_elim h
                  refine J.sub ?_ (((((Sub.base _).upd e1).upd e5).upd e6).upd e7)
                  clear e1 e5 e6 e7
                  refine J_seq (fun σ w => vS (σ 1) fun x1A x1n x1c => vP (σ 5) fun x5 => vI .i64 (σ 6) fun x6 => vI .i64 (σ 7) fun x7 => law03_SetCounts.p9 (law03_SetCounts.l0 K k0) K x1A x1n x1c x5 x6 x7 w) ?_ ?_
                  ·
                    refine J_block ?_
                    refine J_seq (fun σ w => vS (σ 1) fun x1A x1n x1c => vP (σ 5) fun x5 => vI .i64 (σ 6) fun x6 => vI .i64 (σ 7) fun x7 => law03_SetCounts.p7 (law03_SetCounts.l0 K k0) K x1A x1n x1c x5 x6 x7 w) ?_ ?_
                    ·
                      exact sh_sound _ _ _ _ (Eq.mp (by kernel_rfl) h)
                    · intro σ w h
                      obtain ⟨x1A, x1n, x1c, e1, h⟩ := vS_elim h
                      obtain ⟨x5, e5, h⟩ := vP_elim h
                      obtain ⟨x6, e6, h⟩ := vI_elim h
                      obtain ⟨x7, e7, h⟩ := vI_elim h
                      refine J.sub ?_ (((((Sub.base _).upd e1).upd e5).upd e6).upd e7)
                      clear e1 e5 e6 e7
                      refine J_seq (fun σ w => vS (σ 1) fun x1A x1n x1c => vP (σ 5) fun x5 => vI .i64 (σ 6) fun x6 => vI .i64 (σ 7) fun x7 => vB (σ 52) fun x52 => law03_SetCounts.p8 (law03_SetCounts.l0 K k0) K x1A x1n x1c x5 x6 x7 x52 w) ?_ ?_
                      ·
                        exact J_held [] [(0, 0), (1, 0), (2, 0), (3, 0), (6, 0), (7, 0), (8, 0), (4, 1), (9, 1), (10, 0), (5, 2), (11, 0), (12, 0), (13, 0), (14, 0), (16, 0), (15, 1), (17, 2), (18, 0), (19, 0), (20, 0)] (by kernel_rfl) (Eq.mp (by kernel_rfl) h)
                      · intro σ w h
                        obtain ⟨x1A, x1n, x1c, e1, h⟩ := vS_elim h
                        obtain ⟨x5, e5, h⟩ := vP_elim h
                        obtain ⟨x6, e6, h⟩ := vI_elim h
                        obtain ⟨x7, e7, h⟩ := vI_elim h
                        obtain ⟨x52, e52, h⟩ := vB_elim h
                        refine J.sub ?_ ((((((Sub.base _).upd e1).upd e5).upd e6).upd e7).upd e52)
                        clear e1 e5 e6 e7 e52
                        exact sh_sound _ _ _ _ (Eq.mp (by kernel_rfl) h)
                  · intro σ w h
                    obtain ⟨x1A, x1n, x1c, e1, h⟩ := vS_elim h
                    obtain ⟨x5, e5, h⟩ := vP_elim h
                    obtain ⟨x6, e6, h⟩ := vI_elim h
                    obtain ⟨x7, e7, h⟩ := vI_elim h
                    refine J.sub ?_ (((((Sub.base _).upd e1).upd e5).upd e6).upd e7)
                    clear e1 e5 e6 e7
                    exact sh_sound _ _ _ _ (Eq.mp (by kernel_rfl) h)
          · intro σ w h
            obtain ⟨x5, e5, h⟩ := vP_elim h
            obtain ⟨x6, e6, h⟩ := vI_elim h
            refine J.sub ?_ (((Sub.base _).upd e5).upd e6)
            clear e5 e6
            refine J_seq (fun σ w => vP (σ 5) fun x5 => vI .i64 (σ 6) fun x6 => vS (σ 8) fun x8A x8n x8c => law03_SetCounts.p11 K x5 x6 x8A x8n x8c w) ?_ ?_
            ·
              exact sh_sound _ _ _ _ (Eq.mp (by kernel_rfl) h)
            · intro σ w h
              obtain ⟨x5, e5, h⟩ := vP_elim h
              obtain ⟨x6, e6, h⟩ := vI_elim h
              obtain ⟨x8A, x8n, x8c, e8, h⟩ := vS_elim h
              refine J.sub ?_ ((((Sub.base _).upd e5).upd e6).upd e8)
              clear e5 e6 e8
              refine J_seq (fun σ w => vP (σ 5) fun x5 => vI .i64 (σ 6) fun x6 => vS (σ 8) fun x8A x8n x8c => law03_SetCounts.p18 K x5 x6 x8A x8n x8c w) ?_ ?_
              ·
                refine J_seq (fun σ w => vP (σ 5) fun x5 => vI .i64 (σ 6) fun x6 => vS (σ 8) fun x8A x8n x8c => vI .i64 (σ 56) fun x56 => vI .i64 (σ 57) fun x57 => law03_SetCounts.p12 K x5 x6 x8A x8n x8c x56 x57 w) ?_ ?_
                ·
                  exact sh_sound _ _ _ _ (Eq.mp (by kernel_rfl) h)
                · intro σ w h
                  obtain ⟨x5, e5, h⟩ := vP_elim h
                  obtain ⟨x6, e6, h⟩ := vI_elim h
                  obtain ⟨x8A, x8n, x8c, e8, h⟩ := vS_elim h
                  obtain ⟨x56, e56, h⟩ := vI_elim h
                  obtain ⟨x57, e57, h⟩ := vI_elim h
                  refine J.sub ?_ ((((((Sub.base _).upd e5).upd e6).upd e8).upd e56).upd e57)
                  clear e5 e6 e8 e56 e57
                  refine J_block ?_
                  refine J_loop (fun k σ w => vP (σ 5) fun x5 => vI .i64 (σ 6) fun x6 => vS (σ 8) fun x8A x8n x8c => vI .i64 (σ 56) fun x56 => vI .i64 (σ 57) fun x57 => law03_SetCounts.l1 K k x5 x6 x8A x8n x8c x56 x57 w) (Eq.mp (by kernel_rfl) h) ?_ ?_
                  · intro σ w h
                    obtain ⟨x5, e5, h⟩ := vP_elim h
                    obtain ⟨x6, e6, h⟩ := vI_elim h
                    obtain ⟨x8A, x8n, x8c, e8, h⟩ := vS_elim h
                    obtain ⟨x56, e56, h⟩ := vI_elim h
                    obtain ⟨x57, e57, h⟩ := vI_elim h
                    exact h
                  · intro k1 σ w h
                    obtain ⟨x5, e5, h⟩ := vP_elim h
                    obtain ⟨x6, e6, h⟩ := vI_elim h
                    obtain ⟨x8A, x8n, x8c, e8, h⟩ := vS_elim h
                    obtain ⟨x56, e56, h⟩ := vI_elim h
                    obtain ⟨x57, e57, h⟩ := vI_elim h
                    refine J.sub ?_ ((((((Sub.base _).upd e5).upd e6).upd e8).upd e56).upd e57)
                    clear e5 e6 e8 e56 e57
                    refine J_seq (fun σ w => vP (σ 5) fun x5 => vI .i64 (σ 6) fun x6 => vS (σ 8) fun x8A x8n x8c => vI .i64 (σ 56) fun x56 => vI .i64 (σ 57) fun x57 => vB (σ 58) fun x58 => law03_SetCounts.p13 (law03_SetCounts.l1 K k1) K x5 x6 x8A x8n x8c x56 x57 x58 w) ?_ ?_
                    ·
                      exact sh_sound _ _ _ _ (Eq.mp (by kernel_rfl) h)
                    · intro σ w h
                      obtain ⟨x5, e5, h⟩ := vP_elim h
                      obtain ⟨x6, e6, h⟩ := vI_elim h
                      obtain ⟨x8A, x8n, x8c, e8, h⟩ := vS_elim h
                      obtain ⟨x56, e56, h⟩ := vI_elim h
                      obtain ⟨x57, e57, h⟩ := vI_elim h
                      obtain ⟨x58, e58, h⟩ := vB_elim h
                      refine J.sub ?_ (((((((Sub.base _).upd e5).upd e6).upd e8).upd e56).upd e57).upd e58)
                      clear e5 e6 e8 e56 e57 e58
                      refine J_seq (fun σ w => vP (σ 5) fun x5 => vI .i64 (σ 6) fun x6 => vS (σ 8) fun x8A x8n x8c => vI .i64 (σ 56) fun x56 => vI .i64 (σ 57) fun x57 => law03_SetCounts.p14 (law03_SetCounts.l1 K k1) K x5 x6 x8A x8n x8c x56 x57 w) ?_ ?_
                      ·
                        exact sh_sound _ _ _ _ (Eq.mp (by kernel_rfl) h)
                      · intro σ w h
                        obtain ⟨x5, e5, h⟩ := vP_elim h
                        obtain ⟨x6, e6, h⟩ := vI_elim h
                        obtain ⟨x8A, x8n, x8c, e8, h⟩ := vS_elim h
                        obtain ⟨x56, e56, h⟩ := vI_elim h
                        obtain ⟨x57, e57, h⟩ := vI_elim h
                        refine J.sub ?_ ((((((Sub.base _).upd e5).upd e6).upd e8).upd e56).upd e57)
                        clear e5 e6 e8 e56 e57
                        refine J_seq (fun σ w => vP (σ 5) fun x5 => vI .i64 (σ 6) fun x6 => vS (σ 8) fun x8A x8n x8c => vI .i64 (σ 56) fun x56 => vI .i64 (σ 57) fun x57 => law03_SetCounts.p17 (law03_SetCounts.l1 K k1) K x5 x6 x8A x8n x8c x56 x57 w) ?_ ?_
                        ·
                          refine J_block ?_
                          refine J_seq (fun σ w => vP (σ 5) fun x5 => vI .i64 (σ 6) fun x6 => vS (σ 8) fun x8A x8n x8c => vI .i64 (σ 9) fun x9 => vI .i64 (σ 56) fun x56 => vI .i64 (σ 57) fun x57 => law03_SetCounts.p15 (law03_SetCounts.l1 K k1) K x5 x6 x8A x8n x8c x9 x56 x57 w) ?_ ?_
                          ·
                            exact sh_sound _ _ _ _ (Eq.mp (by kernel_rfl) h)
                          · intro σ w h
                            obtain ⟨x5, e5, h⟩ := vP_elim h
                            obtain ⟨x6, e6, h⟩ := vI_elim h
                            obtain ⟨x8A, x8n, x8c, e8, h⟩ := vS_elim h
                            obtain ⟨x9, e9, h⟩ := vI_elim h
                            obtain ⟨x56, e56, h⟩ := vI_elim h
                            obtain ⟨x57, e57, h⟩ := vI_elim h
                            refine J.sub ?_ (((((((Sub.base _).upd e5).upd e6).upd e8).upd e9).upd e56).upd e57)
                            clear e5 e6 e8 e9 e56 e57
                            refine J_seq (fun σ w => vP (σ 5) fun x5 => vI .i64 (σ 6) fun x6 => vS (σ 8) fun x8A x8n x8c => vI .i64 (σ 56) fun x56 => vI .i64 (σ 57) fun x57 => vB (σ 82) fun x82 => law03_SetCounts.p16 (law03_SetCounts.l1 K k1) K x5 x6 x8A x8n x8c x56 x57 x82 w) ?_ ?_
                            ·
                              exact J_held [] [(0, 0), (1, 0), (2, 0), (3, 0), (4, 1), (5, 2), (6, 0), (7, 0), (8, 0), (9, 0), (10, 0), (11, 0), (12, 0), (13, 0), (15, 0), (16, 0), (17, 0), (18, 0), (14, 1), (19, 1), (20, 0), (21, 0), (22, 0)] (by kernel_rfl) (Eq.mp (by kernel_rfl) h)
                            · intro σ w h
                              obtain ⟨x5, e5, h⟩ := vP_elim h
                              obtain ⟨x6, e6, h⟩ := vI_elim h
                              obtain ⟨x8A, x8n, x8c, e8, h⟩ := vS_elim h
                              obtain ⟨x56, e56, h⟩ := vI_elim h
                              obtain ⟨x57, e57, h⟩ := vI_elim h
                              obtain ⟨x82, e82, h⟩ := vB_elim h
                              refine J.sub ?_ (((((((Sub.base _).upd e5).upd e6).upd e8).upd e56).upd e57).upd e82)
                              clear e5 e6 e8 e56 e57 e82
                              exact sh_sound _ _ _ _ (Eq.mp (by kernel_rfl) h)
                        · intro σ w h
                          obtain ⟨x5, e5, h⟩ := vP_elim h
                          obtain ⟨x6, e6, h⟩ := vI_elim h
                          obtain ⟨x8A, x8n, x8c, e8, h⟩ := vS_elim h
                          obtain ⟨x56, e56, h⟩ := vI_elim h
                          obtain ⟨x57, e57, h⟩ := vI_elim h
                          refine J.sub ?_ ((((((Sub.base _).upd e5).upd e6).upd e8).upd e56).upd e57)
                          clear e5 e6 e8 e56 e57
                          exact sh_sound _ _ _ _ (Eq.mp (by kernel_rfl) h)
              · intro σ w h
                obtain ⟨x5, e5, h⟩ := vP_elim h
                obtain ⟨x6, e6, h⟩ := vI_elim h
                obtain ⟨x8A, x8n, x8c, e8, h⟩ := vS_elim h
                refine J.sub ?_ ((((Sub.base _).upd e5).upd e6).upd e8)
                clear e5 e6 e8
                refine J_seq (fun σ w => vB (σ 4) fun x4 => law03_SetCounts.p19 K x4 w) ?_ ?_
                ·
                  exact sh_sound _ _ _ _ (Eq.mp (by kernel_rfl) h)
                · intro σ w h
                  obtain ⟨x4, e4, h⟩ := vB_elim h
                  refine J.sub ?_ ((Sub.base _).upd e4)
                  clear e4
                  exact sh_sound _ _ _ _ (Eq.mp (by kernel_rfl) h)

/-! ### hayloft/hayloftlaw03.SetPlays: function 5 -/
abbrev law03_SetPlays.p4 (K : Value → World → Prop) (x4 : Bool) (w : World) : Prop :=
  K (.bool x4) w
abbrev law03_SetPlays.p3 (K : Value → World → Prop) (x5 : Option Addr) (x6 : Option Addr) (x7 : Bool) (x8A : Option Addr) (x8n : Nat) (x8c : Nat) (w : World) : Prop :=
  ∃ (S14 : Array Obj → Prop), S14 w.heap ∧ condP x7 (∃ (a15 : Addr), x6 = some a15 ∧ ∃ (A16 : Option Addr) (m17 : Nat) (c18 : Nat), (∀ w' : World, S14 w'.heap → w'.cell? a15 = some (.slice A16 m17 c18)) ∧ CallsE Tryd.prog 12 #[.pointer x5] w (fun v19 w20 => ∃ (n21 : Int), v19 = .int .i64 n21 ∧ S14 w20.heap ∧ condP (n21 == ((m17 : Nat) : Int)) (CallsE Tryd.prog 16 #[.pointer x5] w20 (fun v22 w23 => ∃ (n24 : Int), v22 = .int .i64 n24 ∧ S14 w23.heap ∧ condP (n24 == ((x8n : Nat) : Int)) (CallsE Tryd.prog 19 #[.pointer x5] w23 (fun v25 w26 => ∃ (A27 : Option Addr) (m28 : Nat) (c29 : Nat), v25 = .slice A27 m28 c29 ∧ S14 w26.heap ∧ CallsE Tryd.prog 21 #[.slice A27 m28 c29, .slice x8A x8n x8c] w26 (fun v30 w31 => ∃ (b32 : Bool), v30 = .bool b32 ∧ S14 w31.heap ∧ condP b32 (CallsE Tryd.prog 23 #[.pointer x5] w31 (fun v33 w34 => ∃ (A35 : Option Addr) (m36 : Nat) (c37 : Nat), v33 = .slice A35 m36 c37 ∧ S14 w34.heap ∧ CallsE Tryd.prog 24 #[.pointer x6] w34 (fun v38 w39 => ∃ (A40 : Option Addr) (m41 : Nat) (c42 : Nat), v38 = .slice A40 m41 c42 ∧ S14 w39.heap ∧ CallsE Tryd.prog 22 #[.slice A35 m36 c37, .slice A40 m41 c42] w39 (fun v43 w44 => ∃ (b45 : Bool), v43 = .bool b45 ∧ S14 w44.heap ∧ law03_SetPlays.p4 K b45 w44)))) (law03_SetPlays.p4 K false w31)))) (law03_SetPlays.p4 K false w23))) (law03_SetPlays.p4 K false w20))) (law03_SetPlays.p4 K false w)
abbrev law03_SetPlays.p2 (K : Value → World → Prop) (x5 : Option Addr) (x6 : Option Addr) (x7 : Bool) (w : World) : Prop :=
  CallsE Tryd.prog 20 #[.pointer x6] w (fun v9 w10 => ∃ (A11 : Option Addr) (m12 : Nat) (c13 : Nat), v9 = .slice A11 m12 c13 ∧ law03_SetPlays.p3 K x5 x6 x7 A11 m12 c13 w10)
abbrev law03_SetPlays.p1 (K : Value → World → Prop) (x0 : Int) (x1A : Option Addr) (x1n : Nat) (x1c : Nat) (w : World) : Prop :=
  CallsE Tryd.prog 11 #[.int .i64 x0, .slice x1A x1n x1c] w (fun v4 w5 => ∃ (p6 : Option Addr) (p7 : Option Addr) (b8 : Bool), v4 = .tuple #[.pointer p6, .pointer p7, .bool b8] ∧ law03_SetPlays.p2 K p6 p7 b8 w5)
abbrev law03_SetPlays.p0 (K : Value → World → Prop) (x0 : Int) (x1A : Option Addr) (x1n : Nat) (x1c : Nat) (w : World) : Prop :=
  CallsE Tryd.prog 10 #[] w (fun v1 w2 => ∃ (b3 : Bool), v1 = .bool b3 ∧ condP (!b3) (K (.bool false) w2) (law03_SetPlays.p1 K x0 x1A x1n x1c w2))
abbrev law03_SetPlays.F (q0 : Int) (q1A : Option Addr) (q1n : Nat) (q1c : Nat) (K : Value → World → Prop) (w : World) : Prop :=
  law03_SetPlays.p0 K q0 q1A q1n q1c w
theorem law03_SetPlays.ok {q0 : Int} {q1A : Option Addr} {q1n : Nat} {q1c : Nat} {K : Value → World → Prop} {w : World} (h : law03_SetPlays.F q0 q1A q1n q1c K w) :
    CallsE Tryd.prog 5 #[.int .i64 q0, .slice q1A q1n q1c] w K := by
  refine calls_of_J (n := 51) (rs := [.tmp 4]) Tryd.func5 rfl rfl rfl rfl ?_
  refine J_seq (fun σ w => vI .i64 (σ 0) fun x0 => vS (σ 1) fun x1A x1n x1c => law03_SetPlays.p0 K x0 x1A x1n x1c w) ?_ ?_
  ·
    exact sh_sound _ _ _ _ (Eq.mp (by kernel_rfl) h)
  · intro σ w h
    obtain ⟨x0, e0, h⟩ := vI_elim h
    obtain ⟨x1A, x1n, x1c, e1, h⟩ := vS_elim h
    refine J.sub ?_ (((Sub.base _).upd e0).upd e1)
    clear e0 e1
    refine J_seq (fun σ w => vI .i64 (σ 0) fun x0 => vS (σ 1) fun x1A x1n x1c => law03_SetPlays.p1 K x0 x1A x1n x1c w) ?_ ?_
    ·
      exact sh_sound _ _ _ _ (Eq.mp (by kernel_rfl) h)
    · intro σ w h
      obtain ⟨x0, e0, h⟩ := vI_elim h
      obtain ⟨x1A, x1n, x1c, e1, h⟩ := vS_elim h
      refine J.sub ?_ (((Sub.base _).upd e0).upd e1)
      clear e0 e1
      refine J_seq (fun σ w => vP (σ 5) fun x5 => vP (σ 6) fun x6 => vB (σ 7) fun x7 => law03_SetPlays.p2 K x5 x6 x7 w) ?_ ?_
      ·
        exact sh_sound _ _ _ _ (Eq.mp (by kernel_rfl) h)
      · intro σ w h
        obtain ⟨x5, e5, h⟩ := vP_elim h
        obtain ⟨x6, e6, h⟩ := vP_elim h
        obtain ⟨x7, e7, h⟩ := vB_elim h
        refine J.sub ?_ ((((Sub.base _).upd e5).upd e6).upd e7)
        clear e5 e6 e7
        refine J_seq (fun σ w => vP (σ 5) fun x5 => vP (σ 6) fun x6 => vB (σ 7) fun x7 => vS (σ 8) fun x8A x8n x8c => law03_SetPlays.p3 K x5 x6 x7 x8A x8n x8c w) ?_ ?_
        ·
          exact sh_sound _ _ _ _ (Eq.mp (by kernel_rfl) h)
        · intro σ w h
          obtain ⟨x5, e5, h⟩ := vP_elim h
          obtain ⟨x6, e6, h⟩ := vP_elim h
          obtain ⟨x7, e7, h⟩ := vB_elim h
          obtain ⟨x8A, x8n, x8c, e8, h⟩ := vS_elim h
          refine J.sub ?_ (((((Sub.base _).upd e5).upd e6).upd e7).upd e8)
          clear e5 e6 e7 e8
          refine J_seq (fun σ w => vB (σ 4) fun x4 => law03_SetPlays.p4 K x4 w) ?_ ?_
          ·
            exact J_held [] [(0, 0), (1, 0), (2, 0), (4, 0), (5, 0), (6, 0), (7, 1), (8, 0), (3, 2), (9, 0), (10, 0), (11, 0), (12, 0), (14, 0), (15, 0), (13, 2), (16, 0), (17, 0), (18, 0), (19, 0), (21, 0), (20, 2), (22, 2), (23, 0), (24, 0), (25, 0), (27, 0), (26, 2), (28, 2), (29, 2), (30, 0), (31, 0)] (by kernel_rfl) (Eq.mp (by kernel_rfl) h)
          · intro σ w h
            obtain ⟨x4, e4, h⟩ := vB_elim h
            refine J.sub ?_ ((Sub.base _).upd e4)
            clear e4
            exact sh_sound _ _ _ _ (Eq.mp (by kernel_rfl) h)

/-! ### hayloft/hayloftlaw03.SetApart: function 6 -/
abbrev law03_SetApart.p8 (L0 : Option Addr → Nat → Nat → Option Addr → Option Addr → Nat → Nat → Option Addr → Int → World → Prop) (K : Value → World → Prop) (x2A : Option Addr) (x2n : Nat) (x2c : Nat) (x7 : Option Addr) (x10A : Option Addr) (x10n : Nat) (x10c : Nat) (x11 : Option Addr) (x12 : Int) (w : World) : Prop :=
  (0 ≤ x12 ∧ x12 < ((x2n : Nat) : Int)) ∧ ∃ (a17 : Addr), x2A = some a17 ∧ ∃ (n18 : Int), w.cell? ((a17.add (x12.toNat * 2)).add 1) = some (.int .i64 n18) ∧ CallsE Tryd.prog 18 #[.pointer x7, .int .i64 n18] w (fun v19 w20 => ∃ (b21 : Bool), v19 = .bool b21 ∧ (0 ≤ x12 ∧ x12 < ((x2n : Nat) : Int)) ∧ ∃ (a22 : Addr), x2A = some a22 ∧ ∃ (n23 : Int), w20.cell? (a22.add (x12.toNat * 2)) = some (.int .i64 n23) ∧ CallsE Tryd.prog 26 #[.pointer x7, .int .i64 n23] w20 (fun v24 w25 => ∃ (b26 : Bool), v24 = .bool b26 ∧ L0 x2A x2n x2c x7 x10A x10n x10c x11 (IntKind.wrap .i64 (x12 + (1 : Int))) w25))
abbrev law03_SetApart.p18 (L2 : Option Addr → Nat → Nat → Option Addr → Option Addr → Option Addr → Nat → Nat → Int → World → Prop) (K : Value → World → Prop) (x2A : Option Addr) (x2n : Nat) (x2c : Nat) (x7 : Option Addr) (x11 : Option Addr) (x13A : Option Addr) (x13n : Nat) (x13c : Nat) (x16 : Int) (w : World) : Prop :=
  (0 ≤ x16 ∧ x16 < ((x2n : Nat) : Int)) ∧ ∃ (a49 : Addr), x2A = some a49 ∧ ∃ (n50 : Int), w.cell? ((a49.add (x16.toNat * 2)).add 1) = some (.int .i64 n50) ∧ CallsE Tryd.prog 26 #[.pointer x11, .int .i64 n50] w (fun v51 w52 => ∃ (b53 : Bool), v51 = .bool b53 ∧ (0 ≤ x16 ∧ x16 < ((x2n : Nat) : Int)) ∧ ∃ (a54 : Addr), x2A = some a54 ∧ ∃ (n55 : Int), w52.cell? (a54.add (x16.toNat * 2)) = some (.int .i64 n55) ∧ CallsE Tryd.prog 18 #[.pointer x11, .int .i64 n55] w52 (fun v56 w57 => ∃ (b58 : Bool), v56 = .bool b58 ∧ L2 x2A x2n x2c x7 x11 x13A x13n x13c (IntKind.wrap .i64 (x16 + (1 : Int))) w57))
abbrev law03_SetApart.p22 (K : Value → World → Prop) (x7 : Option Addr) (x13A : Option Addr) (x13n : Nat) (x13c : Nat) (w : World) : Prop :=
  CallsE Tryd.prog 19 #[.pointer x7] w (fun v66 w67 => ∃ (A68 : Option Addr) (m69 : Nat) (c70 : Nat), v66 = .slice A68 m69 c70 ∧ CallsE Tryd.prog 21 #[.slice A68 m69 c70, .slice x13A x13n x13c] w67 (fun v71 w72 => ∃ (b73 : Bool), v71 = .bool b73 ∧ K (.bool b73) w72))
abbrev law03_SetApart.b3 (L3 : Option Addr → Option Addr → Nat → Nat → Option Addr → Nat → Nat → Int → Int → World → Prop) (K : Value → World → Prop) (x7 : Option Addr) (x13A : Option Addr) (x13n : Nat) (x13c : Nat) (x17A : Option Addr) (x17n : Nat) (x17c : Nat) (x115 : Int) (x116 : Int) (w : World) : Prop :=
  condP (decide (x116 < x115)) ((0 ≤ x116 ∧ x116 < ((x17n : Nat) : Int)) ∧ ∃ (a64 : Addr), x17A = some a64 ∧ canStore w (a64.add x116.toNat) ∧ wlet (w.setCell (a64.add x116.toNat) (.int .i64 (-1))) fun w65 => L3 x7 x13A x13n x13c x17A x17n x17c x115 (IntKind.wrap .i64 (x116 + (1 : Int))) w65) (law03_SetApart.p22 K x7 x13A x13n x13c w)
def law03_SetApart.l3 (K : Value → World → Prop) (k : Nat) : Option Addr → Option Addr → Nat → Nat → Option Addr → Nat → Nat → Int → Int → World → Prop :=
  Nat.rec (motive := fun _ => Option Addr → Option Addr → Nat → Nat → Option Addr → Nat → Nat → Int → Int → World → Prop) (fun _ _ _ _ _ _ _ _ _ _ => False) (fun _ ih => law03_SetApart.b3 ih K) k
theorem law03_SetApart.l3_succ (K : Value → World → Prop) (k : Nat) (x7 : Option Addr) (x13A : Option Addr) (x13n : Nat) (x13c : Nat) (x17A : Option Addr) (x17n : Nat) (x17c : Nat) (x115 : Int) (x116 : Int) (w : World) : law03_SetApart.l3 K (k + 1) x7 x13A x13n x13c x17A x17n x17c x115 x116 w = law03_SetApart.b3 (law03_SetApart.l3 K k) K x7 x13A x13n x13c x17A x17n x17c x115 x116 w := rfl
abbrev law03_SetApart.p21 (K : Value → World → Prop) (x7 : Option Addr) (x13A : Option Addr) (x13n : Nat) (x13c : Nat) (x17A : Option Addr) (x17n : Nat) (x17c : Nat) (x115 : Int) (x116 : Int) (w : World) : Prop :=
  ∃ k, law03_SetApart.l3 K k x7 x13A x13n x13c x17A x17n x17c x115 x116 w
abbrev law03_SetApart.p20 (K : Value → World → Prop) (x7 : Option Addr) (x13A : Option Addr) (x13n : Nat) (x13c : Nat) (x17A : Option Addr) (x17n : Nat) (x17c : Nat) (w : World) : Prop :=
  law03_SetApart.p21 K x7 x13A x13n x13c x17A x17n x17c ((x17n : Nat) : Int) 0 w
abbrev law03_SetApart.p19 (K : Value → World → Prop) (x7 : Option Addr) (x13A : Option Addr) (x13n : Nat) (x13c : Nat) (w : World) : Prop :=
  CallsE Tryd.prog 19 #[.pointer x7] w (fun v59 w60 => ∃ (A61 : Option Addr) (m62 : Nat) (c63 : Nat), v59 = .slice A61 m62 c63 ∧ law03_SetApart.p20 K x7 x13A x13n x13c A61 m62 c63 w60)
abbrev law03_SetApart.p17 (L2 : Option Addr → Nat → Nat → Option Addr → Option Addr → Option Addr → Nat → Nat → Int → World → Prop) (K : Value → World → Prop) (x2A : Option Addr) (x2n : Nat) (x2c : Nat) (x7 : Option Addr) (x11 : Option Addr) (x13A : Option Addr) (x13n : Nat) (x13c : Nat) (x16 : Int) (x95 : Bool) (w : World) : Prop :=
  condP x95 (law03_SetApart.p18 L2 K x2A x2n x2c x7 x11 x13A x13n x13c x16 w) (law03_SetApart.p19 K x7 x13A x13n x13c w)
abbrev law03_SetApart.b2 (L2 : Option Addr → Nat → Nat → Option Addr → Option Addr → Option Addr → Nat → Nat → Int → World → Prop) (K : Value → World → Prop) (x2A : Option Addr) (x2n : Nat) (x2c : Nat) (x7 : Option Addr) (x11 : Option Addr) (x13A : Option Addr) (x13n : Nat) (x13c : Nat) (x16 : Int) (w : World) : Prop :=
  condP (decide (x16 < ((x2n : Nat) : Int))) (law03_SetApart.p17 L2 K x2A x2n x2c x7 x11 x13A x13n x13c x16 (decide (x16 < (300 : Int))) w) (law03_SetApart.p17 L2 K x2A x2n x2c x7 x11 x13A x13n x13c x16 false w)
def law03_SetApart.l2 (K : Value → World → Prop) (k : Nat) : Option Addr → Nat → Nat → Option Addr → Option Addr → Option Addr → Nat → Nat → Int → World → Prop :=
  Nat.rec (motive := fun _ => Option Addr → Nat → Nat → Option Addr → Option Addr → Option Addr → Nat → Nat → Int → World → Prop) (fun _ _ _ _ _ _ _ _ _ _ => False) (fun _ ih => law03_SetApart.b2 ih K) k
theorem law03_SetApart.l2_succ (K : Value → World → Prop) (k : Nat) (x2A : Option Addr) (x2n : Nat) (x2c : Nat) (x7 : Option Addr) (x11 : Option Addr) (x13A : Option Addr) (x13n : Nat) (x13c : Nat) (x16 : Int) (w : World) : law03_SetApart.l2 K (k + 1) x2A x2n x2c x7 x11 x13A x13n x13c x16 w = law03_SetApart.b2 (law03_SetApart.l2 K k) K x2A x2n x2c x7 x11 x13A x13n x13c x16 w := rfl
abbrev law03_SetApart.p16 (K : Value → World → Prop) (x2A : Option Addr) (x2n : Nat) (x2c : Nat) (x7 : Option Addr) (x11 : Option Addr) (x13A : Option Addr) (x13n : Nat) (x13c : Nat) (x16 : Int) (w : World) : Prop :=
  ∃ k, law03_SetApart.l2 K k x2A x2n x2c x7 x11 x13A x13n x13c x16 w
abbrev law03_SetApart.p15 (K : Value → World → Prop) (x2A : Option Addr) (x2n : Nat) (x2c : Nat) (x7 : Option Addr) (x11 : Option Addr) (x13A : Option Addr) (x13n : Nat) (x13c : Nat) (w : World) : Prop :=
  law03_SetApart.p16 K x2A x2n x2c x7 x11 x13A x13n x13c 0 w
abbrev law03_SetApart.p14 (K : Value → World → Prop) (x2A : Option Addr) (x2n : Nat) (x2c : Nat) (x7 : Option Addr) (x11 : Option Addr) (x13A : Option Addr) (x13n : Nat) (x13c : Nat) (x87 : Bool) (w : World) : Prop :=
  condP x87 (K (.bool false) w) (law03_SetApart.p15 K x2A x2n x2c x7 x11 x13A x13n x13c w)
abbrev law03_SetApart.p13 (K : Value → World → Prop) (x2A : Option Addr) (x2n : Nat) (x2c : Nat) (x7 : Option Addr) (x10A : Option Addr) (x10n : Nat) (x10c : Nat) (x11 : Option Addr) (x13A : Option Addr) (x13n : Nat) (x13c : Nat) (w : World) : Prop :=
  CallsE Tryd.prog 19 #[.pointer x11] w (fun v41 w42 => ∃ (A43 : Option Addr) (m44 : Nat) (c45 : Nat), v41 = .slice A43 m44 c45 ∧ CallsE Tryd.prog 21 #[.slice A43 m44 c45, .slice x10A x10n x10c] w42 (fun v46 w47 => ∃ (b48 : Bool), v46 = .bool b48 ∧ condP (!b48) (law03_SetApart.p14 K x2A x2n x2c x7 x11 x13A x13n x13c true w47) (CallsE Tryd.prog 12 #[.pointer x11] w47 (fun v74 w75 => ∃ (n76 : Int), v74 = .int .i64 n76 ∧ CallsE Tryd.prog 12 #[.pointer x7] w75 (fun v77 w78 => ∃ (n79 : Int), v77 = .int .i64 n79 ∧ law03_SetApart.p14 K x2A x2n x2c x7 x11 x13A x13n x13c (n76 != n79) w78)))))
abbrev law03_SetApart.b1 (L1 : Option Addr → Nat → Nat → Option Addr → Option Addr → Nat → Nat → Option Addr → Option Addr → Nat → Nat → Option Addr → Nat → Nat → Int → Int → World → Prop) (K : Value → World → Prop) (x2A : Option Addr) (x2n : Nat) (x2c : Nat) (x7 : Option Addr) (x10A : Option Addr) (x10n : Nat) (x10c : Nat) (x11 : Option Addr) (x13A : Option Addr) (x13n : Nat) (x13c : Nat) (x14A : Option Addr) (x14n : Nat) (x14c : Nat) (x63 : Int) (x64 : Int) (w : World) : Prop :=
  condP (decide (x64 < x63)) ((0 ≤ x64 ∧ x64 < ((x14n : Nat) : Int)) ∧ ∃ (a37 : Addr), x14A = some a37 ∧ ∃ (n38 : Int), w.cell? (a37.add x64.toNat) = some (.int .u8 n38) ∧ (0 ≤ x64 ∧ x64 < ((x14n : Nat) : Int)) ∧ ∃ (a39 : Addr), x14A = some a39 ∧ canStore w (a39.add x64.toNat) ∧ wlet (w.setCell (a39.add x64.toNat) (.int .u8 (IntKind.wrap .u8 (n38 + (1 : Int))))) fun w40 => L1 x2A x2n x2c x7 x10A x10n x10c x11 x13A x13n x13c x14A x14n x14c x63 (IntKind.wrap .i64 (x64 + (1 : Int))) w40) (law03_SetApart.p13 K x2A x2n x2c x7 x10A x10n x10c x11 x13A x13n x13c w)
def law03_SetApart.l1 (K : Value → World → Prop) (k : Nat) : Option Addr → Nat → Nat → Option Addr → Option Addr → Nat → Nat → Option Addr → Option Addr → Nat → Nat → Option Addr → Nat → Nat → Int → Int → World → Prop :=
  Nat.rec (motive := fun _ => Option Addr → Nat → Nat → Option Addr → Option Addr → Nat → Nat → Option Addr → Option Addr → Nat → Nat → Option Addr → Nat → Nat → Int → Int → World → Prop) (fun _ _ _ _ _ _ _ _ _ _ _ _ _ _ _ _ _ => False) (fun _ ih => law03_SetApart.b1 ih K) k
theorem law03_SetApart.l1_succ (K : Value → World → Prop) (k : Nat) (x2A : Option Addr) (x2n : Nat) (x2c : Nat) (x7 : Option Addr) (x10A : Option Addr) (x10n : Nat) (x10c : Nat) (x11 : Option Addr) (x13A : Option Addr) (x13n : Nat) (x13c : Nat) (x14A : Option Addr) (x14n : Nat) (x14c : Nat) (x63 : Int) (x64 : Int) (w : World) : law03_SetApart.l1 K (k + 1) x2A x2n x2c x7 x10A x10n x10c x11 x13A x13n x13c x14A x14n x14c x63 x64 w = law03_SetApart.b1 (law03_SetApart.l1 K k) K x2A x2n x2c x7 x10A x10n x10c x11 x13A x13n x13c x14A x14n x14c x63 x64 w := rfl
abbrev law03_SetApart.p12 (K : Value → World → Prop) (x2A : Option Addr) (x2n : Nat) (x2c : Nat) (x7 : Option Addr) (x10A : Option Addr) (x10n : Nat) (x10c : Nat) (x11 : Option Addr) (x13A : Option Addr) (x13n : Nat) (x13c : Nat) (x14A : Option Addr) (x14n : Nat) (x14c : Nat) (x63 : Int) (x64 : Int) (w : World) : Prop :=
  ∃ k, law03_SetApart.l1 K k x2A x2n x2c x7 x10A x10n x10c x11 x13A x13n x13c x14A x14n x14c x63 x64 w
abbrev law03_SetApart.p11 (K : Value → World → Prop) (x2A : Option Addr) (x2n : Nat) (x2c : Nat) (x7 : Option Addr) (x10A : Option Addr) (x10n : Nat) (x10c : Nat) (x11 : Option Addr) (x13A : Option Addr) (x13n : Nat) (x13c : Nat) (x14A : Option Addr) (x14n : Nat) (x14c : Nat) (w : World) : Prop :=
  law03_SetApart.p12 K x2A x2n x2c x7 x10A x10n x10c x11 x13A x13n x13c x14A x14n x14c ((x14n : Nat) : Int) 0 w
abbrev law03_SetApart.p10 (K : Value → World → Prop) (x2A : Option Addr) (x2n : Nat) (x2c : Nat) (x7 : Option Addr) (x10A : Option Addr) (x10n : Nat) (x10c : Nat) (x11 : Option Addr) (x13A : Option Addr) (x13n : Nat) (x13c : Nat) (w : World) : Prop :=
  CallsE Tryd.prog 23 #[.pointer x11] w (fun v32 w33 => ∃ (A34 : Option Addr) (m35 : Nat) (c36 : Nat), v32 = .slice A34 m35 c36 ∧ law03_SetApart.p11 K x2A x2n x2c x7 x10A x10n x10c x11 x13A x13n x13c A34 m35 c36 w33)
abbrev law03_SetApart.p9 (K : Value → World → Prop) (x2A : Option Addr) (x2n : Nat) (x2c : Nat) (x7 : Option Addr) (x10A : Option Addr) (x10n : Nat) (x10c : Nat) (x11 : Option Addr) (w : World) : Prop :=
  CallsE Tryd.prog 19 #[.pointer x7] w (fun v27 w28 => ∃ (A29 : Option Addr) (m30 : Nat) (c31 : Nat), v27 = .slice A29 m30 c31 ∧ law03_SetApart.p10 K x2A x2n x2c x7 x10A x10n x10c x11 A29 m30 c31 w28)
abbrev law03_SetApart.p7 (L0 : Option Addr → Nat → Nat → Option Addr → Option Addr → Nat → Nat → Option Addr → Int → World → Prop) (K : Value → World → Prop) (x2A : Option Addr) (x2n : Nat) (x2c : Nat) (x7 : Option Addr) (x10A : Option Addr) (x10n : Nat) (x10c : Nat) (x11 : Option Addr) (x12 : Int) (x41 : Bool) (w : World) : Prop :=
  condP x41 (law03_SetApart.p8 L0 K x2A x2n x2c x7 x10A x10n x10c x11 x12 w) (law03_SetApart.p9 K x2A x2n x2c x7 x10A x10n x10c x11 w)
abbrev law03_SetApart.b0 (L0 : Option Addr → Nat → Nat → Option Addr → Option Addr → Nat → Nat → Option Addr → Int → World → Prop) (K : Value → World → Prop) (x2A : Option Addr) (x2n : Nat) (x2c : Nat) (x7 : Option Addr) (x10A : Option Addr) (x10n : Nat) (x10c : Nat) (x11 : Option Addr) (x12 : Int) (w : World) : Prop :=
  condP (decide (x12 < ((x2n : Nat) : Int))) (law03_SetApart.p7 L0 K x2A x2n x2c x7 x10A x10n x10c x11 x12 (decide (x12 < (300 : Int))) w) (law03_SetApart.p7 L0 K x2A x2n x2c x7 x10A x10n x10c x11 x12 false w)
def law03_SetApart.l0 (K : Value → World → Prop) (k : Nat) : Option Addr → Nat → Nat → Option Addr → Option Addr → Nat → Nat → Option Addr → Int → World → Prop :=
  Nat.rec (motive := fun _ => Option Addr → Nat → Nat → Option Addr → Option Addr → Nat → Nat → Option Addr → Int → World → Prop) (fun _ _ _ _ _ _ _ _ _ _ => False) (fun _ ih => law03_SetApart.b0 ih K) k
theorem law03_SetApart.l0_succ (K : Value → World → Prop) (k : Nat) (x2A : Option Addr) (x2n : Nat) (x2c : Nat) (x7 : Option Addr) (x10A : Option Addr) (x10n : Nat) (x10c : Nat) (x11 : Option Addr) (x12 : Int) (w : World) : law03_SetApart.l0 K (k + 1) x2A x2n x2c x7 x10A x10n x10c x11 x12 w = law03_SetApart.b0 (law03_SetApart.l0 K k) K x2A x2n x2c x7 x10A x10n x10c x11 x12 w := rfl
abbrev law03_SetApart.p6 (K : Value → World → Prop) (x2A : Option Addr) (x2n : Nat) (x2c : Nat) (x7 : Option Addr) (x10A : Option Addr) (x10n : Nat) (x10c : Nat) (x11 : Option Addr) (x12 : Int) (w : World) : Prop :=
  ∃ k, law03_SetApart.l0 K k x2A x2n x2c x7 x10A x10n x10c x11 x12 w
abbrev law03_SetApart.p5 (K : Value → World → Prop) (x2A : Option Addr) (x2n : Nat) (x2c : Nat) (x7 : Option Addr) (x10A : Option Addr) (x10n : Nat) (x10c : Nat) (x11 : Option Addr) (w : World) : Prop :=
  law03_SetApart.p6 K x2A x2n x2c x7 x10A x10n x10c x11 0 w
abbrev law03_SetApart.p4 (K : Value → World → Prop) (x2A : Option Addr) (x2n : Nat) (x2c : Nat) (x7 : Option Addr) (x10A : Option Addr) (x10n : Nat) (x10c : Nat) (w : World) : Prop :=
  CallsE Tryd.prog 25 #[.pointer x7] w (fun v14 w15 => ∃ (p16 : Option Addr), v14 = .pointer p16 ∧ law03_SetApart.p5 K x2A x2n x2c x7 x10A x10n x10c p16 w15)
abbrev law03_SetApart.p3 (K : Value → World → Prop) (x2A : Option Addr) (x2n : Nat) (x2c : Nat) (x7 : Option Addr) (w : World) : Prop :=
  CallsE Tryd.prog 19 #[.pointer x7] w (fun v9 w10 => ∃ (A11 : Option Addr) (m12 : Nat) (c13 : Nat), v9 = .slice A11 m12 c13 ∧ law03_SetApart.p4 K x2A x2n x2c x7 A11 m12 c13 w10)
abbrev law03_SetApart.p2 (K : Value → World → Prop) (x2A : Option Addr) (x2n : Nat) (x2c : Nat) (x7 : Option Addr) (x9 : Bool) (w : World) : Prop :=
  condP (!x9) (K (.bool false) w) (law03_SetApart.p3 K x2A x2n x2c x7 w)
abbrev law03_SetApart.p1 (K : Value → World → Prop) (x0 : Int) (x1A : Option Addr) (x1n : Nat) (x1c : Nat) (x2A : Option Addr) (x2n : Nat) (x2c : Nat) (w : World) : Prop :=
  CallsE Tryd.prog 11 #[.int .i64 x0, .slice x1A x1n x1c] w (fun v4 w5 => ∃ (p6 : Option Addr) (p7 : Option Addr) (b8 : Bool), v4 = .tuple #[.pointer p6, .pointer p7, .bool b8] ∧ law03_SetApart.p2 K x2A x2n x2c p6 b8 w5)
abbrev law03_SetApart.p0 (K : Value → World → Prop) (x0 : Int) (x1A : Option Addr) (x1n : Nat) (x1c : Nat) (x2A : Option Addr) (x2n : Nat) (x2c : Nat) (w : World) : Prop :=
  CallsE Tryd.prog 10 #[] w (fun v1 w2 => ∃ (b3 : Bool), v1 = .bool b3 ∧ condP (!b3) (K (.bool false) w2) (law03_SetApart.p1 K x0 x1A x1n x1c x2A x2n x2c w2))
abbrev law03_SetApart.F (q0 : Int) (q1A : Option Addr) (q1n : Nat) (q1c : Nat) (q2A : Option Addr) (q2n : Nat) (q2c : Nat) (K : Value → World → Prop) (w : World) : Prop :=
  law03_SetApart.p0 K q0 q1A q1n q1c q2A q2n q2c w
theorem law03_SetApart.ok {q0 : Int} {q1A : Option Addr} {q1n : Nat} {q1c : Nat} {q2A : Option Addr} {q2n : Nat} {q2c : Nat} {K : Value → World → Prop} {w : World} (h : law03_SetApart.F q0 q1A q1n q1c q2A q2n q2c K w) :
    CallsE Tryd.prog 6 #[.int .i64 q0, .slice q1A q1n q1c, .slice q2A q2n q2c] w K := by
  refine calls_of_J (n := 127) (rs := [.tmp 6]) Tryd.func6 rfl rfl rfl rfl ?_
  refine J_seq (fun σ w => vI .i64 (σ 0) fun x0 => vS (σ 1) fun x1A x1n x1c => vS (σ 2) fun x2A x2n x2c => law03_SetApart.p0 K x0 x1A x1n x1c x2A x2n x2c w) ?_ ?_
  ·
    exact sh_sound _ _ _ _ (Eq.mp (by kernel_rfl) h)
  · intro σ w h
    obtain ⟨x0, e0, h⟩ := vI_elim h
    obtain ⟨x1A, x1n, x1c, e1, h⟩ := vS_elim h
    obtain ⟨x2A, x2n, x2c, e2, h⟩ := vS_elim h
    refine J.sub ?_ ((((Sub.base _).upd e0).upd e1).upd e2)
    clear e0 e1 e2
    refine J_seq (fun σ w => vI .i64 (σ 0) fun x0 => vS (σ 1) fun x1A x1n x1c => vS (σ 2) fun x2A x2n x2c => law03_SetApart.p1 K x0 x1A x1n x1c x2A x2n x2c w) ?_ ?_
    ·
      exact sh_sound _ _ _ _ (Eq.mp (by kernel_rfl) h)
    · intro σ w h
      obtain ⟨x0, e0, h⟩ := vI_elim h
      obtain ⟨x1A, x1n, x1c, e1, h⟩ := vS_elim h
      obtain ⟨x2A, x2n, x2c, e2, h⟩ := vS_elim h
      refine J.sub ?_ ((((Sub.base _).upd e0).upd e1).upd e2)
      clear e0 e1 e2
      refine J_seq (fun σ w => vS (σ 2) fun x2A x2n x2c => vP (σ 7) fun x7 => vB (σ 9) fun x9 => law03_SetApart.p2 K x2A x2n x2c x7 x9 w) ?_ ?_
      ·
        exact sh_sound _ _ _ _ (Eq.mp (by kernel_rfl) h)
      · intro σ w h
        obtain ⟨x2A, x2n, x2c, e2, h⟩ := vS_elim h
        obtain ⟨x7, e7, h⟩ := vP_elim h
        obtain ⟨x9, e9, h⟩ := vB_elim h
        refine J.sub ?_ ((((Sub.base _).upd e2).upd e7).upd e9)
        clear e2 e7 e9
        refine J_seq (fun σ w => vS (σ 2) fun x2A x2n x2c => vP (σ 7) fun x7 => law03_SetApart.p3 K x2A x2n x2c x7 w) ?_ ?_
        ·
          exact sh_sound _ _ _ _ (Eq.mp (by kernel_rfl) h)
        · intro σ w h
          obtain ⟨x2A, x2n, x2c, e2, h⟩ := vS_elim h
          obtain ⟨x7, e7, h⟩ := vP_elim h
          refine J.sub ?_ (((Sub.base _).upd e2).upd e7)
          clear e2 e7
          refine J_seq (fun σ w => vS (σ 2) fun x2A x2n x2c => vP (σ 7) fun x7 => vS (σ 10) fun x10A x10n x10c => law03_SetApart.p4 K x2A x2n x2c x7 x10A x10n x10c w) ?_ ?_
          ·
            exact sh_sound _ _ _ _ (Eq.mp (by kernel_rfl) h)
          · intro σ w h
            obtain ⟨x2A, x2n, x2c, e2, h⟩ := vS_elim h
            obtain ⟨x7, e7, h⟩ := vP_elim h
            obtain ⟨x10A, x10n, x10c, e10, h⟩ := vS_elim h
            refine J.sub ?_ ((((Sub.base _).upd e2).upd e7).upd e10)
            clear e2 e7 e10
            refine J_seq (fun σ w => vS (σ 2) fun x2A x2n x2c => vP (σ 7) fun x7 => vS (σ 10) fun x10A x10n x10c => vP (σ 11) fun x11 => law03_SetApart.p5 K x2A x2n x2c x7 x10A x10n x10c x11 w) ?_ ?_
            ·
              exact sh_sound _ _ _ _ (Eq.mp (by kernel_rfl) h)
            · intro σ w h
              obtain ⟨x2A, x2n, x2c, e2, h⟩ := vS_elim h
              obtain ⟨x7, e7, h⟩ := vP_elim h
              obtain ⟨x10A, x10n, x10c, e10, h⟩ := vS_elim h
              obtain ⟨x11, e11, h⟩ := vP_elim h
              refine J.sub ?_ (((((Sub.base _).upd e2).upd e7).upd e10).upd e11)
              clear e2 e7 e10 e11
              refine J_seq (fun σ w => vS (σ 2) fun x2A x2n x2c => vP (σ 7) fun x7 => vS (σ 10) fun x10A x10n x10c => vP (σ 11) fun x11 => law03_SetApart.p9 K x2A x2n x2c x7 x10A x10n x10c x11 w) ?_ ?_
              ·
                refine J_seq (fun σ w => vS (σ 2) fun x2A x2n x2c => vP (σ 7) fun x7 => vS (σ 10) fun x10A x10n x10c => vP (σ 11) fun x11 => vI .i64 (σ 12) fun x12 => law03_SetApart.p6 K x2A x2n x2c x7 x10A x10n x10c x11 x12 w) ?_ ?_
                ·
                  exact sh_sound _ _ _ _ (Eq.mp (by kernel_rfl) h)
                · intro σ w h
                  obtain ⟨x2A, x2n, x2c, e2, h⟩ := vS_elim h
                  obtain ⟨x7, e7, h⟩ := vP_elim h
                  obtain ⟨x10A, x10n, x10c, e10, h⟩ := vS_elim h
                  obtain ⟨x11, e11, h⟩ := vP_elim h
                  obtain ⟨x12, e12, h⟩ := vI_elim h
                  refine J.sub ?_ ((((((Sub.base _).upd e2).upd e7).upd e10).upd e11).upd e12)
                  clear e2 e7 e10 e11 e12
                  refine J_block ?_
                  refine J_loop (fun k σ w => vS (σ 2) fun x2A x2n x2c => vP (σ 7) fun x7 => vS (σ 10) fun x10A x10n x10c => vP (σ 11) fun x11 => vI .i64 (σ 12) fun x12 => law03_SetApart.l0 K k x2A x2n x2c x7 x10A x10n x10c x11 x12 w) (Eq.mp (by kernel_rfl) h) ?_ ?_
                  · intro σ w h
                    obtain ⟨x2A, x2n, x2c, e2, h⟩ := vS_elim h
                    obtain ⟨x7, e7, h⟩ := vP_elim h
                    obtain ⟨x10A, x10n, x10c, e10, h⟩ := vS_elim h
                    obtain ⟨x11, e11, h⟩ := vP_elim h
                    obtain ⟨x12, e12, h⟩ := vI_elim h
                    exact h
                  · intro k0 σ w h
                    obtain ⟨x2A, x2n, x2c, e2, h⟩ := vS_elim h
                    obtain ⟨x7, e7, h⟩ := vP_elim h
                    obtain ⟨x10A, x10n, x10c, e10, h⟩ := vS_elim h
                    obtain ⟨x11, e11, h⟩ := vP_elim h
                    obtain ⟨x12, e12, h⟩ := vI_elim h
                    refine J.sub ?_ ((((((Sub.base _).upd e2).upd e7).upd e10).upd e11).upd e12)
                    clear e2 e7 e10 e11 e12
                    refine J_seq (fun σ w => vS (σ 2) fun x2A x2n x2c => vP (σ 7) fun x7 => vS (σ 10) fun x10A x10n x10c => vP (σ 11) fun x11 => vI .i64 (σ 12) fun x12 => law03_SetApart.p8 (law03_SetApart.l0 K k0) K x2A x2n x2c x7 x10A x10n x10c x11 x12 w) ?_ ?_
                    ·
                      refine J_seq (fun σ w => vS (σ 2) fun x2A x2n x2c => vP (σ 7) fun x7 => vS (σ 10) fun x10A x10n x10c => vP (σ 11) fun x11 => vI .i64 (σ 12) fun x12 => vB (σ 41) fun x41 => law03_SetApart.p7 (law03_SetApart.l0 K k0) K x2A x2n x2c x7 x10A x10n x10c x11 x12 x41 w) ?_ ?_
                      ·
                        exact sh_sound _ _ _ _ (Eq.mp (by kernel_rfl) h)
                      · intro σ w h
                        obtain ⟨x2A, x2n, x2c, e2, h⟩ := vS_elim h
                        obtain ⟨x7, e7, h⟩ := vP_elim h
                        obtain ⟨x10A, x10n, x10c, e10, h⟩ := vS_elim h
                        obtain ⟨x11, e11, h⟩ := vP_elim h
                        obtain ⟨x12, e12, h⟩ := vI_elim h
                        obtain ⟨x41, e41, h⟩ := vB_elim h
                        refine J.sub ?_ (((((((Sub.base _).upd e2).upd e7).upd e10).upd e11).upd e12).upd e41)
                        clear e2 e7 e10 e11 e12 e41
                        exact sh_sound _ _ _ _ (Eq.mp (by kernel_rfl) h)
                    · intro σ w h
                      obtain ⟨x2A, x2n, x2c, e2, h⟩ := vS_elim h
                      obtain ⟨x7, e7, h⟩ := vP_elim h
                      obtain ⟨x10A, x10n, x10c, e10, h⟩ := vS_elim h
                      obtain ⟨x11, e11, h⟩ := vP_elim h
                      obtain ⟨x12, e12, h⟩ := vI_elim h
                      refine J.sub ?_ ((((((Sub.base _).upd e2).upd e7).upd e10).upd e11).upd e12)
                      clear e2 e7 e10 e11 e12
                      exact sh_sound _ _ _ _ (Eq.mp (by kernel_rfl) h)
              · intro σ w h
                obtain ⟨x2A, x2n, x2c, e2, h⟩ := vS_elim h
                obtain ⟨x7, e7, h⟩ := vP_elim h
                obtain ⟨x10A, x10n, x10c, e10, h⟩ := vS_elim h
                obtain ⟨x11, e11, h⟩ := vP_elim h
                refine J.sub ?_ (((((Sub.base _).upd e2).upd e7).upd e10).upd e11)
                clear e2 e7 e10 e11
                refine J_seq (fun σ w => vS (σ 2) fun x2A x2n x2c => vP (σ 7) fun x7 => vS (σ 10) fun x10A x10n x10c => vP (σ 11) fun x11 => vS (σ 13) fun x13A x13n x13c => law03_SetApart.p10 K x2A x2n x2c x7 x10A x10n x10c x11 x13A x13n x13c w) ?_ ?_
                ·
                  exact sh_sound _ _ _ _ (Eq.mp (by kernel_rfl) h)
                · intro σ w h
                  obtain ⟨x2A, x2n, x2c, e2, h⟩ := vS_elim h
                  obtain ⟨x7, e7, h⟩ := vP_elim h
                  obtain ⟨x10A, x10n, x10c, e10, h⟩ := vS_elim h
                  obtain ⟨x11, e11, h⟩ := vP_elim h
                  obtain ⟨x13A, x13n, x13c, e13, h⟩ := vS_elim h
                  refine J.sub ?_ ((((((Sub.base _).upd e2).upd e7).upd e10).upd e11).upd e13)
                  clear e2 e7 e10 e11 e13
                  refine J_seq (fun σ w => vS (σ 2) fun x2A x2n x2c => vP (σ 7) fun x7 => vS (σ 10) fun x10A x10n x10c => vP (σ 11) fun x11 => vS (σ 13) fun x13A x13n x13c => vS (σ 14) fun x14A x14n x14c => law03_SetApart.p11 K x2A x2n x2c x7 x10A x10n x10c x11 x13A x13n x13c x14A x14n x14c w) ?_ ?_
                  ·
                    exact sh_sound _ _ _ _ (Eq.mp (by kernel_rfl) h)
                  · intro σ w h
                    obtain ⟨x2A, x2n, x2c, e2, h⟩ := vS_elim h
                    obtain ⟨x7, e7, h⟩ := vP_elim h
                    obtain ⟨x10A, x10n, x10c, e10, h⟩ := vS_elim h
                    obtain ⟨x11, e11, h⟩ := vP_elim h
                    obtain ⟨x13A, x13n, x13c, e13, h⟩ := vS_elim h
                    obtain ⟨x14A, x14n, x14c, e14, h⟩ := vS_elim h
                    refine J.sub ?_ (((((((Sub.base _).upd e2).upd e7).upd e10).upd e11).upd e13).upd e14)
                    clear e2 e7 e10 e11 e13 e14
                    refine J_seq (fun σ w => vS (σ 2) fun x2A x2n x2c => vP (σ 7) fun x7 => vS (σ 10) fun x10A x10n x10c => vP (σ 11) fun x11 => vS (σ 13) fun x13A x13n x13c => law03_SetApart.p13 K x2A x2n x2c x7 x10A x10n x10c x11 x13A x13n x13c w) ?_ ?_
                    ·
                      refine J_seq (fun σ w => vS (σ 2) fun x2A x2n x2c => vP (σ 7) fun x7 => vS (σ 10) fun x10A x10n x10c => vP (σ 11) fun x11 => vS (σ 13) fun x13A x13n x13c => vS (σ 14) fun x14A x14n x14c => vI .i64 (σ 63) fun x63 => vI .i64 (σ 64) fun x64 => law03_SetApart.p12 K x2A x2n x2c x7 x10A x10n x10c x11 x13A x13n x13c x14A x14n x14c x63 x64 w) ?_ ?_
                      ·
                        exact sh_sound _ _ _ _ (Eq.mp (by kernel_rfl) h)
                      · intro σ w h
                        obtain ⟨x2A, x2n, x2c, e2, h⟩ := vS_elim h
                        obtain ⟨x7, e7, h⟩ := vP_elim h
                        obtain ⟨x10A, x10n, x10c, e10, h⟩ := vS_elim h
                        obtain ⟨x11, e11, h⟩ := vP_elim h
                        obtain ⟨x13A, x13n, x13c, e13, h⟩ := vS_elim h
                        obtain ⟨x14A, x14n, x14c, e14, h⟩ := vS_elim h
                        obtain ⟨x63, e63, h⟩ := vI_elim h
                        obtain ⟨x64, e64, h⟩ := vI_elim h
                        refine J.sub ?_ (((((((((Sub.base _).upd e2).upd e7).upd e10).upd e11).upd e13).upd e14).upd e63).upd e64)
                        clear e2 e7 e10 e11 e13 e14 e63 e64
                        refine J_block ?_
                        refine J_loop (fun k σ w => vS (σ 2) fun x2A x2n x2c => vP (σ 7) fun x7 => vS (σ 10) fun x10A x10n x10c => vP (σ 11) fun x11 => vS (σ 13) fun x13A x13n x13c => vS (σ 14) fun x14A x14n x14c => vI .i64 (σ 63) fun x63 => vI .i64 (σ 64) fun x64 => law03_SetApart.l1 K k x2A x2n x2c x7 x10A x10n x10c x11 x13A x13n x13c x14A x14n x14c x63 x64 w) (Eq.mp (by kernel_rfl) h) ?_ ?_
                        · intro σ w h
                          obtain ⟨x2A, x2n, x2c, e2, h⟩ := vS_elim h
                          obtain ⟨x7, e7, h⟩ := vP_elim h
                          obtain ⟨x10A, x10n, x10c, e10, h⟩ := vS_elim h
                          obtain ⟨x11, e11, h⟩ := vP_elim h
                          obtain ⟨x13A, x13n, x13c, e13, h⟩ := vS_elim h
                          obtain ⟨x14A, x14n, x14c, e14, h⟩ := vS_elim h
                          obtain ⟨x63, e63, h⟩ := vI_elim h
                          obtain ⟨x64, e64, h⟩ := vI_elim h
                          exact h
                        · intro k1 σ w h
                          obtain ⟨x2A, x2n, x2c, e2, h⟩ := vS_elim h
                          obtain ⟨x7, e7, h⟩ := vP_elim h
                          obtain ⟨x10A, x10n, x10c, e10, h⟩ := vS_elim h
                          obtain ⟨x11, e11, h⟩ := vP_elim h
                          obtain ⟨x13A, x13n, x13c, e13, h⟩ := vS_elim h
                          obtain ⟨x14A, x14n, x14c, e14, h⟩ := vS_elim h
                          obtain ⟨x63, e63, h⟩ := vI_elim h
                          obtain ⟨x64, e64, h⟩ := vI_elim h
                          refine J.sub ?_ (((((((((Sub.base _).upd e2).upd e7).upd e10).upd e11).upd e13).upd e14).upd e63).upd e64)
                          clear e2 e7 e10 e11 e13 e14 e63 e64
                          exact sh_sound _ _ _ _ (Eq.mp (by kernel_rfl) h)
                    · intro σ w h
                      obtain ⟨x2A, x2n, x2c, e2, h⟩ := vS_elim h
                      obtain ⟨x7, e7, h⟩ := vP_elim h
                      obtain ⟨x10A, x10n, x10c, e10, h⟩ := vS_elim h
                      obtain ⟨x11, e11, h⟩ := vP_elim h
                      obtain ⟨x13A, x13n, x13c, e13, h⟩ := vS_elim h
                      refine J.sub ?_ ((((((Sub.base _).upd e2).upd e7).upd e10).upd e11).upd e13)
                      clear e2 e7 e10 e11 e13
                      refine J_seq (fun σ w => vS (σ 2) fun x2A x2n x2c => vP (σ 7) fun x7 => vP (σ 11) fun x11 => vS (σ 13) fun x13A x13n x13c => law03_SetApart.p15 K x2A x2n x2c x7 x11 x13A x13n x13c w) ?_ ?_
                      ·
                        refine J_seq (fun σ w => vS (σ 2) fun x2A x2n x2c => vP (σ 7) fun x7 => vP (σ 11) fun x11 => vS (σ 13) fun x13A x13n x13c => vB (σ 87) fun x87 => law03_SetApart.p14 K x2A x2n x2c x7 x11 x13A x13n x13c x87 w) ?_ ?_
                        ·
                          exact sh_sound _ _ _ _ (Eq.mp (by kernel_rfl) h)
                        · intro σ w h
                          obtain ⟨x2A, x2n, x2c, e2, h⟩ := vS_elim h
                          obtain ⟨x7, e7, h⟩ := vP_elim h
                          obtain ⟨x11, e11, h⟩ := vP_elim h
                          obtain ⟨x13A, x13n, x13c, e13, h⟩ := vS_elim h
                          obtain ⟨x87, e87, h⟩ := vB_elim h
                          refine J.sub ?_ ((((((Sub.base _).upd e2).upd e7).upd e11).upd e13).upd e87)
                          clear e2 e7 e11 e13 e87
                          exact sh_sound _ _ _ _ (Eq.mp (by kernel_rfl) h)
                      · intro σ w h
                        obtain ⟨x2A, x2n, x2c, e2, h⟩ := vS_elim h
                        obtain ⟨x7, e7, h⟩ := vP_elim h
                        obtain ⟨x11, e11, h⟩ := vP_elim h
                        obtain ⟨x13A, x13n, x13c, e13, h⟩ := vS_elim h
                        refine J.sub ?_ (((((Sub.base _).upd e2).upd e7).upd e11).upd e13)
                        clear e2 e7 e11 e13
                        refine J_seq (fun σ w => vP (σ 7) fun x7 => vS (σ 13) fun x13A x13n x13c => law03_SetApart.p19 K x7 x13A x13n x13c w) ?_ ?_
                        ·
                          refine J_seq (fun σ w => vS (σ 2) fun x2A x2n x2c => vP (σ 7) fun x7 => vP (σ 11) fun x11 => vS (σ 13) fun x13A x13n x13c => vI .i64 (σ 16) fun x16 => law03_SetApart.p16 K x2A x2n x2c x7 x11 x13A x13n x13c x16 w) ?_ ?_
                          ·
                            exact sh_sound _ _ _ _ (Eq.mp (by kernel_rfl) h)
                          · intro σ w h
                            obtain ⟨x2A, x2n, x2c, e2, h⟩ := vS_elim h
                            obtain ⟨x7, e7, h⟩ := vP_elim h
                            obtain ⟨x11, e11, h⟩ := vP_elim h
                            obtain ⟨x13A, x13n, x13c, e13, h⟩ := vS_elim h
                            obtain ⟨x16, e16, h⟩ := vI_elim h
                            refine J.sub ?_ ((((((Sub.base _).upd e2).upd e7).upd e11).upd e13).upd e16)
                            clear e2 e7 e11 e13 e16
                            refine J_block ?_
                            refine J_loop (fun k σ w => vS (σ 2) fun x2A x2n x2c => vP (σ 7) fun x7 => vP (σ 11) fun x11 => vS (σ 13) fun x13A x13n x13c => vI .i64 (σ 16) fun x16 => law03_SetApart.l2 K k x2A x2n x2c x7 x11 x13A x13n x13c x16 w) (Eq.mp (by kernel_rfl) h) ?_ ?_
                            · intro σ w h
                              obtain ⟨x2A, x2n, x2c, e2, h⟩ := vS_elim h
                              obtain ⟨x7, e7, h⟩ := vP_elim h
                              obtain ⟨x11, e11, h⟩ := vP_elim h
                              obtain ⟨x13A, x13n, x13c, e13, h⟩ := vS_elim h
                              obtain ⟨x16, e16, h⟩ := vI_elim h
                              exact h
                            · intro k2 σ w h
                              obtain ⟨x2A, x2n, x2c, e2, h⟩ := vS_elim h
                              obtain ⟨x7, e7, h⟩ := vP_elim h
                              obtain ⟨x11, e11, h⟩ := vP_elim h
                              obtain ⟨x13A, x13n, x13c, e13, h⟩ := vS_elim h
                              obtain ⟨x16, e16, h⟩ := vI_elim h
                              refine J.sub ?_ ((((((Sub.base _).upd e2).upd e7).upd e11).upd e13).upd e16)
                              clear e2 e7 e11 e13 e16
                              refine J_seq (fun σ w => vS (σ 2) fun x2A x2n x2c => vP (σ 7) fun x7 => vP (σ 11) fun x11 => vS (σ 13) fun x13A x13n x13c => vI .i64 (σ 16) fun x16 => law03_SetApart.p18 (law03_SetApart.l2 K k2) K x2A x2n x2c x7 x11 x13A x13n x13c x16 w) ?_ ?_
                              ·
                                refine J_seq (fun σ w => vS (σ 2) fun x2A x2n x2c => vP (σ 7) fun x7 => vP (σ 11) fun x11 => vS (σ 13) fun x13A x13n x13c => vI .i64 (σ 16) fun x16 => vB (σ 95) fun x95 => law03_SetApart.p17 (law03_SetApart.l2 K k2) K x2A x2n x2c x7 x11 x13A x13n x13c x16 x95 w) ?_ ?_
                                ·
                                  exact sh_sound _ _ _ _ (Eq.mp (by kernel_rfl) h)
                                · intro σ w h
                                  obtain ⟨x2A, x2n, x2c, e2, h⟩ := vS_elim h
                                  obtain ⟨x7, e7, h⟩ := vP_elim h
                                  obtain ⟨x11, e11, h⟩ := vP_elim h
                                  obtain ⟨x13A, x13n, x13c, e13, h⟩ := vS_elim h
                                  obtain ⟨x16, e16, h⟩ := vI_elim h
                                  obtain ⟨x95, e95, h⟩ := vB_elim h
                                  refine J.sub ?_ (((((((Sub.base _).upd e2).upd e7).upd e11).upd e13).upd e16).upd e95)
                                  clear e2 e7 e11 e13 e16 e95
                                  exact sh_sound _ _ _ _ (Eq.mp (by kernel_rfl) h)
                              · intro σ w h
                                obtain ⟨x2A, x2n, x2c, e2, h⟩ := vS_elim h
                                obtain ⟨x7, e7, h⟩ := vP_elim h
                                obtain ⟨x11, e11, h⟩ := vP_elim h
                                obtain ⟨x13A, x13n, x13c, e13, h⟩ := vS_elim h
                                obtain ⟨x16, e16, h⟩ := vI_elim h
                                refine J.sub ?_ ((((((Sub.base _).upd e2).upd e7).upd e11).upd e13).upd e16)
                                clear e2 e7 e11 e13 e16
                                exact sh_sound _ _ _ _ (Eq.mp (by kernel_rfl) h)
                        · intro σ w h
                          obtain ⟨x7, e7, h⟩ := vP_elim h
                          obtain ⟨x13A, x13n, x13c, e13, h⟩ := vS_elim h
                          refine J.sub ?_ (((Sub.base _).upd e7).upd e13)
                          clear e7 e13
                          refine J_seq (fun σ w => vP (σ 7) fun x7 => vS (σ 13) fun x13A x13n x13c => vS (σ 17) fun x17A x17n x17c => law03_SetApart.p20 K x7 x13A x13n x13c x17A x17n x17c w) ?_ ?_
                          ·
                            exact sh_sound _ _ _ _ (Eq.mp (by kernel_rfl) h)
                          · intro σ w h
                            obtain ⟨x7, e7, h⟩ := vP_elim h
                            obtain ⟨x13A, x13n, x13c, e13, h⟩ := vS_elim h
                            obtain ⟨x17A, x17n, x17c, e17, h⟩ := vS_elim h
                            refine J.sub ?_ ((((Sub.base _).upd e7).upd e13).upd e17)
                            clear e7 e13 e17
                            refine J_seq (fun σ w => vP (σ 7) fun x7 => vS (σ 13) fun x13A x13n x13c => law03_SetApart.p22 K x7 x13A x13n x13c w) ?_ ?_
                            ·
                              refine J_seq (fun σ w => vP (σ 7) fun x7 => vS (σ 13) fun x13A x13n x13c => vS (σ 17) fun x17A x17n x17c => vI .i64 (σ 115) fun x115 => vI .i64 (σ 116) fun x116 => law03_SetApart.p21 K x7 x13A x13n x13c x17A x17n x17c x115 x116 w) ?_ ?_
                              ·
                                exact sh_sound _ _ _ _ (Eq.mp (by kernel_rfl) h)
                              · intro σ w h
                                obtain ⟨x7, e7, h⟩ := vP_elim h
                                obtain ⟨x13A, x13n, x13c, e13, h⟩ := vS_elim h
                                obtain ⟨x17A, x17n, x17c, e17, h⟩ := vS_elim h
                                obtain ⟨x115, e115, h⟩ := vI_elim h
                                obtain ⟨x116, e116, h⟩ := vI_elim h
                                refine J.sub ?_ ((((((Sub.base _).upd e7).upd e13).upd e17).upd e115).upd e116)
                                clear e7 e13 e17 e115 e116
                                refine J_block ?_
                                refine J_loop (fun k σ w => vP (σ 7) fun x7 => vS (σ 13) fun x13A x13n x13c => vS (σ 17) fun x17A x17n x17c => vI .i64 (σ 115) fun x115 => vI .i64 (σ 116) fun x116 => law03_SetApart.l3 K k x7 x13A x13n x13c x17A x17n x17c x115 x116 w) (Eq.mp (by kernel_rfl) h) ?_ ?_
                                · intro σ w h
                                  obtain ⟨x7, e7, h⟩ := vP_elim h
                                  obtain ⟨x13A, x13n, x13c, e13, h⟩ := vS_elim h
                                  obtain ⟨x17A, x17n, x17c, e17, h⟩ := vS_elim h
                                  obtain ⟨x115, e115, h⟩ := vI_elim h
                                  obtain ⟨x116, e116, h⟩ := vI_elim h
                                  exact h
                                · intro k3 σ w h
                                  obtain ⟨x7, e7, h⟩ := vP_elim h
                                  obtain ⟨x13A, x13n, x13c, e13, h⟩ := vS_elim h
                                  obtain ⟨x17A, x17n, x17c, e17, h⟩ := vS_elim h
                                  obtain ⟨x115, e115, h⟩ := vI_elim h
                                  obtain ⟨x116, e116, h⟩ := vI_elim h
                                  refine J.sub ?_ ((((((Sub.base _).upd e7).upd e13).upd e17).upd e115).upd e116)
                                  clear e7 e13 e17 e115 e116
                                  exact sh_sound _ _ _ _ (Eq.mp (by kernel_rfl) h)
                            · intro σ w h
                              obtain ⟨x7, e7, h⟩ := vP_elim h
                              obtain ⟨x13A, x13n, x13c, e13, h⟩ := vS_elim h
                              refine J.sub ?_ (((Sub.base _).upd e7).upd e13)
                              clear e7 e13
                              exact sh_sound _ _ _ _ (Eq.mp (by kernel_rfl) h)

/-! ### hayloft/hayloftlaw03.SetNil: function 7 -/
abbrev law03_SetNil.p2 (K : Value → World → Prop) (x2 : Bool) (w : World) : Prop :=
  K (.bool x2) w
abbrev law03_SetNil.p1 (K : Value → World → Prop) (x0 : Int) (x3 : Option Addr) (w : World) : Prop :=
  CallsE Tryd.prog 10 #[] w (fun v1 w2 => ∃ (b3 : Bool), v1 = .bool b3 ∧ condP b3 (CallsE Tryd.prog 12 #[.pointer x3] w2 (fun v4 w5 => ∃ (n6 : Int), v4 = .int .i64 n6 ∧ condP (n6 == (0 : Int)) (CallsE Tryd.prog 15 #[.pointer x3, .int .i64 x0] w5 (fun v7 w8 => ∃ (b9 : Bool), v7 = .bool b9 ∧ condP (!b9) (CallsE Tryd.prog 18 #[.pointer x3, .int .i64 x0] w8 (fun v10 w11 => ∃ (b12 : Bool), v10 = .bool b12 ∧ condP (!b12) (CallsE Tryd.prog 26 #[.pointer x3, .int .i64 x0] w11 (fun v13 w14 => ∃ (b15 : Bool), v13 = .bool b15 ∧ condP (!b15) (CallsE Tryd.prog 16 #[.pointer x3] w14 (fun v16 w17 => ∃ (n18 : Int), v16 = .int .i64 n18 ∧ condP (n18 == (0 : Int)) (CallsE Tryd.prog 13 #[.pointer x3, .int .i64 x0] w17 (fun v19 w20 => ∃ (n21 : Int), v19 = .int .i64 n21 ∧ condP (n21 == (-1)) (CallsE Tryd.prog 14 #[.pointer x3, .int .i64 x0] w20 (fun v22 w23 => ∃ (n24 : Int), v22 = .int .i64 n24 ∧ condP (n24 == (-1)) (CallsE Tryd.prog 19 #[.pointer x3] w23 (fun v25 w26 => ∃ (A27 : Option Addr) (m28 : Nat) (c29 : Nat), v25 = .slice A27 m28 c29 ∧ condP (((m28 : Nat) : Int) == (0 : Int)) (CallsE Tryd.prog 23 #[.pointer x3] w26 (fun v30 w31 => ∃ (A32 : Option Addr) (m33 : Nat) (c34 : Nat), v30 = .slice A32 m33 c34 ∧ condP (((m33 : Nat) : Int) == (0 : Int)) (CallsE Tryd.prog 25 #[.pointer x3] w31 (fun v35 w36 => ∃ (p37 : Option Addr), v35 = .pointer p37 ∧ law03_SetNil.p2 K p37.isNone w36)) (law03_SetNil.p2 K false w31))) (law03_SetNil.p2 K false w26))) (law03_SetNil.p2 K false w23))) (law03_SetNil.p2 K false w20))) (law03_SetNil.p2 K false w17))) (law03_SetNil.p2 K false w14))) (law03_SetNil.p2 K false w11))) (law03_SetNil.p2 K false w8))) (law03_SetNil.p2 K false w5))) (law03_SetNil.p2 K false w2))
abbrev law03_SetNil.p0 (K : Value → World → Prop) (x0 : Int) (w : World) : Prop :=
  law03_SetNil.p1 K x0 none w
abbrev law03_SetNil.F (q0 : Int) (K : Value → World → Prop) (w : World) : Prop :=
  law03_SetNil.p0 K q0 w
theorem law03_SetNil.ok {q0 : Int} {K : Value → World → Prop} {w : World} (h : law03_SetNil.F q0 K w) :
    CallsE Tryd.prog 7 #[.int .i64 q0] w K := by
  refine calls_of_J (n := 62) (rs := [.tmp 2]) Tryd.func7 rfl rfl rfl rfl ?_
  refine J_seq (fun σ w => vI .i64 (σ 0) fun x0 => law03_SetNil.p0 K x0 w) ?_ ?_
  ·
    exact sh_sound _ _ _ _ (Eq.mp (by kernel_rfl) h)
  · intro σ w h
    obtain ⟨x0, e0, h⟩ := vI_elim h
    refine J.sub ?_ ((Sub.base _).upd e0)
    clear e0
    refine J_seq (fun σ w => vI .i64 (σ 0) fun x0 => vP (σ 3) fun x3 => law03_SetNil.p1 K x0 x3 w) ?_ ?_
    ·
      exact sh_sound _ _ _ _ (Eq.mp (by kernel_rfl) h)
    · intro σ w h
      obtain ⟨x0, e0, h⟩ := vI_elim h
      obtain ⟨x3, e3, h⟩ := vP_elim h
      refine J.sub ?_ (((Sub.base _).upd e0).upd e3)
      clear e0 e3
      refine J_seq (fun σ w => vB (σ 2) fun x2 => law03_SetNil.p2 K x2 w) ?_ ?_
      ·
        exact sh_sound _ _ _ _ (Eq.mp (by kernel_rfl) h)
      · intro σ w h
        obtain ⟨x2, e2, h⟩ := vB_elim h
        refine J.sub ?_ ((Sub.base _).upd e2)
        clear e2
        exact sh_sound _ _ _ _ (Eq.mp (by kernel_rfl) h)

/-! ### hayloft/hayloftlaw03.SetReads: function 8 -/
abbrev law03_SetReads.p8 (K : Value → World → Prop) (x4 : Bool) (w : World) : Prop :=
  K (.bool x4) w
abbrev law03_SetReads.p7 (K : Value → World → Prop) (x0 : Int) (x1A : Option Addr) (x1n : Nat) (x1c : Nat) (x6 : Option Addr) (x8 : Option Addr) (w : World) : Prop :=
  CallsE Tryd.prog 12 #[.pointer x6] w (fun v17 w18 => ∃ (n19 : Int), v17 = .int .i64 n19 ∧ condP (n19 == x0) (CallsE Tryd.prog 19 #[.pointer x6] w18 (fun v20 w21 => ∃ (A22 : Option Addr) (m23 : Nat) (c24 : Nat), v20 = .slice A22 m23 c24 ∧ CallsE Tryd.prog 20 #[.pointer x8] w21 (fun v25 w26 => ∃ (A27 : Option Addr) (m28 : Nat) (c29 : Nat), v25 = .slice A27 m28 c29 ∧ CallsE Tryd.prog 21 #[.slice A22 m23 c24, .slice A27 m28 c29] w26 (fun v30 w31 => ∃ (b32 : Bool), v30 = .bool b32 ∧ condP b32 (CallsE Tryd.prog 23 #[.pointer x6] w31 (fun v33 w34 => ∃ (A35 : Option Addr) (m36 : Nat) (c37 : Nat), v33 = .slice A35 m36 c37 ∧ CallsE Tryd.prog 22 #[.slice A35 m36 c37, .slice x1A x1n x1c] w34 (fun v38 w39 => ∃ (b40 : Bool), v38 = .bool b40 ∧ law03_SetReads.p8 K b40 w39))) (law03_SetReads.p8 K false w31))))) (law03_SetReads.p8 K false w18))
abbrev law03_SetReads.p6 (K : Value → World → Prop) (x0 : Int) (x1A : Option Addr) (x1n : Nat) (x1c : Nat) (x6 : Option Addr) (x8 : Option Addr) (x9 : Int) (w : World) : Prop :=
  condP (x9 != (0 : Int)) (K (.bool x6.isNone) w) (law03_SetReads.p7 K x0 x1A x1n x1c x6 x8 w)
abbrev law03_SetReads.p5 (K : Value → World → Prop) (x0 : Int) (x1A : Option Addr) (x1n : Nat) (x1c : Nat) (x6 : Option Addr) (x8 : Option Addr) (x9 : Int) (x34 : Bool) (w : World) : Prop :=
  condP x34 (K (.bool false) w) (law03_SetReads.p6 K x0 x1A x1n x1c x6 x8 x9 w)
abbrev law03_SetReads.p4 (K : Value → World → Prop) (x0 : Int) (x1A : Option Addr) (x1n : Nat) (x1c : Nat) (x5A : Option Addr) (x5n : Nat) (x5c : Nat) (x6 : Option Addr) (x7 : Int) (x8 : Option Addr) (x9 : Int) (w : World) : Prop :=
  condP (x7 != x9) (law03_SetReads.p5 K x0 x1A x1n x1c x6 x8 x9 true w) (CallsE Tryd.prog 22 #[.slice x5A x5n x5c, .slice x1A x1n x1c] w (fun v41 w42 => ∃ (b43 : Bool), v41 = .bool b43 ∧ law03_SetReads.p5 K x0 x1A x1n x1c x6 x8 x9 (!b43) w42))
abbrev law03_SetReads.p3 (K : Value → World → Prop) (x0 : Int) (x1A : Option Addr) (x1n : Nat) (x1c : Nat) (x5A : Option Addr) (x5n : Nat) (x5c : Nat) (x6 : Option Addr) (x7 : Int) (w : World) : Prop :=
  CallsE Tryd.prog 29 #[.int .i64 x0, .slice x1A x1n x1c] w (fun v13 w14 => ∃ (p15 : Option Addr) (n16 : Int), v13 = .tuple #[.pointer p15, .int .i64 n16] ∧ law03_SetReads.p4 K x0 x1A x1n x1c x5A x5n x5c x6 x7 p15 n16 w14)
abbrev law03_SetReads.p2 (K : Value → World → Prop) (x0 : Int) (x1A : Option Addr) (x1n : Nat) (x1c : Nat) (x5A : Option Addr) (x5n : Nat) (x5c : Nat) (w : World) : Prop :=
  CallsE Tryd.prog 28 #[.int .i64 x0, .slice x5A x5n x5c] w (fun v9 w10 => ∃ (p11 : Option Addr) (n12 : Int), v9 = .tuple #[.pointer p11, .int .i64 n12] ∧ law03_SetReads.p3 K x0 x1A x1n x1c x5A x5n x5c p11 n12 w10)
abbrev law03_SetReads.p1 (K : Value → World → Prop) (x0 : Int) (x1A : Option Addr) (x1n : Nat) (x1c : Nat) (w : World) : Prop :=
  CallsE Tryd.prog 27 #[.slice x1A x1n x1c] w (fun v4 w5 => ∃ (A6 : Option Addr) (m7 : Nat) (c8 : Nat), v4 = .slice A6 m7 c8 ∧ law03_SetReads.p2 K x0 x1A x1n x1c A6 m7 c8 w5)
abbrev law03_SetReads.p0 (K : Value → World → Prop) (x0 : Int) (x1A : Option Addr) (x1n : Nat) (x1c : Nat) (w : World) : Prop :=
  CallsE Tryd.prog 10 #[] w (fun v1 w2 => ∃ (b3 : Bool), v1 = .bool b3 ∧ condP (!b3) (K (.bool false) w2) (law03_SetReads.p1 K x0 x1A x1n x1c w2))
abbrev law03_SetReads.F (q0 : Int) (q1A : Option Addr) (q1n : Nat) (q1c : Nat) (K : Value → World → Prop) (w : World) : Prop :=
  law03_SetReads.p0 K q0 q1A q1n q1c w
theorem law03_SetReads.ok {q0 : Int} {q1A : Option Addr} {q1n : Nat} {q1c : Nat} {K : Value → World → Prop} {w : World} (h : law03_SetReads.F q0 q1A q1n q1c K w) :
    CallsE Tryd.prog 8 #[.int .i64 q0, .slice q1A q1n q1c] w K := by
  refine calls_of_J (n := 56) (rs := [.tmp 4]) Tryd.func8 rfl rfl rfl rfl ?_
  refine J_seq (fun σ w => vI .i64 (σ 0) fun x0 => vS (σ 1) fun x1A x1n x1c => law03_SetReads.p0 K x0 x1A x1n x1c w) ?_ ?_
  ·
    exact sh_sound _ _ _ _ (Eq.mp (by kernel_rfl) h)
  · intro σ w h
    obtain ⟨x0, e0, h⟩ := vI_elim h
    obtain ⟨x1A, x1n, x1c, e1, h⟩ := vS_elim h
    refine J.sub ?_ (((Sub.base _).upd e0).upd e1)
    clear e0 e1
    refine J_seq (fun σ w => vI .i64 (σ 0) fun x0 => vS (σ 1) fun x1A x1n x1c => law03_SetReads.p1 K x0 x1A x1n x1c w) ?_ ?_
    ·
      exact sh_sound _ _ _ _ (Eq.mp (by kernel_rfl) h)
    · intro σ w h
      obtain ⟨x0, e0, h⟩ := vI_elim h
      obtain ⟨x1A, x1n, x1c, e1, h⟩ := vS_elim h
      refine J.sub ?_ (((Sub.base _).upd e0).upd e1)
      clear e0 e1
      refine J_seq (fun σ w => vI .i64 (σ 0) fun x0 => vS (σ 1) fun x1A x1n x1c => vS (σ 5) fun x5A x5n x5c => law03_SetReads.p2 K x0 x1A x1n x1c x5A x5n x5c w) ?_ ?_
      ·
        exact sh_sound _ _ _ _ (Eq.mp (by kernel_rfl) h)
      · intro σ w h
        obtain ⟨x0, e0, h⟩ := vI_elim h
        obtain ⟨x1A, x1n, x1c, e1, h⟩ := vS_elim h
        obtain ⟨x5A, x5n, x5c, e5, h⟩ := vS_elim h
        refine J.sub ?_ ((((Sub.base _).upd e0).upd e1).upd e5)
        clear e0 e1 e5
        refine J_seq (fun σ w => vI .i64 (σ 0) fun x0 => vS (σ 1) fun x1A x1n x1c => vS (σ 5) fun x5A x5n x5c => vP (σ 6) fun x6 => vI .i64 (σ 7) fun x7 => law03_SetReads.p3 K x0 x1A x1n x1c x5A x5n x5c x6 x7 w) ?_ ?_
        ·
          exact sh_sound _ _ _ _ (Eq.mp (by kernel_rfl) h)
        · intro σ w h
          obtain ⟨x0, e0, h⟩ := vI_elim h
          obtain ⟨x1A, x1n, x1c, e1, h⟩ := vS_elim h
          obtain ⟨x5A, x5n, x5c, e5, h⟩ := vS_elim h
          obtain ⟨x6, e6, h⟩ := vP_elim h
          obtain ⟨x7, e7, h⟩ := vI_elim h
          refine J.sub ?_ ((((((Sub.base _).upd e0).upd e1).upd e5).upd e6).upd e7)
          clear e0 e1 e5 e6 e7
          refine J_seq (fun σ w => vI .i64 (σ 0) fun x0 => vS (σ 1) fun x1A x1n x1c => vS (σ 5) fun x5A x5n x5c => vP (σ 6) fun x6 => vI .i64 (σ 7) fun x7 => vP (σ 8) fun x8 => vI .i64 (σ 9) fun x9 => law03_SetReads.p4 K x0 x1A x1n x1c x5A x5n x5c x6 x7 x8 x9 w) ?_ ?_
          ·
            exact sh_sound _ _ _ _ (Eq.mp (by kernel_rfl) h)
          · intro σ w h
            obtain ⟨x0, e0, h⟩ := vI_elim h
            obtain ⟨x1A, x1n, x1c, e1, h⟩ := vS_elim h
            obtain ⟨x5A, x5n, x5c, e5, h⟩ := vS_elim h
            obtain ⟨x6, e6, h⟩ := vP_elim h
            obtain ⟨x7, e7, h⟩ := vI_elim h
            obtain ⟨x8, e8, h⟩ := vP_elim h
            obtain ⟨x9, e9, h⟩ := vI_elim h
            refine J.sub ?_ ((((((((Sub.base _).upd e0).upd e1).upd e5).upd e6).upd e7).upd e8).upd e9)
            clear e0 e1 e5 e6 e7 e8 e9
            refine J_seq (fun σ w => vI .i64 (σ 0) fun x0 => vS (σ 1) fun x1A x1n x1c => vP (σ 6) fun x6 => vP (σ 8) fun x8 => vI .i64 (σ 9) fun x9 => law03_SetReads.p6 K x0 x1A x1n x1c x6 x8 x9 w) ?_ ?_
            ·
              refine J_seq (fun σ w => vI .i64 (σ 0) fun x0 => vS (σ 1) fun x1A x1n x1c => vP (σ 6) fun x6 => vP (σ 8) fun x8 => vI .i64 (σ 9) fun x9 => vB (σ 34) fun x34 => law03_SetReads.p5 K x0 x1A x1n x1c x6 x8 x9 x34 w) ?_ ?_
              ·
                exact sh_sound _ _ _ _ (Eq.mp (by kernel_rfl) h)
              · intro σ w h
                obtain ⟨x0, e0, h⟩ := vI_elim h
                obtain ⟨x1A, x1n, x1c, e1, h⟩ := vS_elim h
                obtain ⟨x6, e6, h⟩ := vP_elim h
                obtain ⟨x8, e8, h⟩ := vP_elim h
                obtain ⟨x9, e9, h⟩ := vI_elim h
                obtain ⟨x34, e34, h⟩ := vB_elim h
                refine J.sub ?_ (((((((Sub.base _).upd e0).upd e1).upd e6).upd e8).upd e9).upd e34)
                clear e0 e1 e6 e8 e9 e34
                exact sh_sound _ _ _ _ (Eq.mp (by kernel_rfl) h)
            · intro σ w h
              obtain ⟨x0, e0, h⟩ := vI_elim h
              obtain ⟨x1A, x1n, x1c, e1, h⟩ := vS_elim h
              obtain ⟨x6, e6, h⟩ := vP_elim h
              obtain ⟨x8, e8, h⟩ := vP_elim h
              obtain ⟨x9, e9, h⟩ := vI_elim h
              refine J.sub ?_ ((((((Sub.base _).upd e0).upd e1).upd e6).upd e8).upd e9)
              clear e0 e1 e6 e8 e9
              refine J_seq (fun σ w => vI .i64 (σ 0) fun x0 => vS (σ 1) fun x1A x1n x1c => vP (σ 6) fun x6 => vP (σ 8) fun x8 => law03_SetReads.p7 K x0 x1A x1n x1c x6 x8 w) ?_ ?_
              ·
                exact sh_sound _ _ _ _ (Eq.mp (by kernel_rfl) h)
              · intro σ w h
                obtain ⟨x0, e0, h⟩ := vI_elim h
                obtain ⟨x1A, x1n, x1c, e1, h⟩ := vS_elim h
                obtain ⟨x6, e6, h⟩ := vP_elim h
                obtain ⟨x8, e8, h⟩ := vP_elim h
                refine J.sub ?_ (((((Sub.base _).upd e0).upd e1).upd e6).upd e8)
                clear e0 e1 e6 e8
                refine J_seq (fun σ w => vB (σ 4) fun x4 => law03_SetReads.p8 K x4 w) ?_ ?_
                ·
                  exact sh_sound _ _ _ _ (Eq.mp (by kernel_rfl) h)
                · intro σ w h
                  obtain ⟨x4, e4, h⟩ := vB_elim h
                  refine J.sub ?_ ((Sub.base _).upd e4)
                  clear e4
                  exact sh_sound _ _ _ _ (Eq.mp (by kernel_rfl) h)

/-! ### hayloft/hayloftlaw03.SetBack: function 9 -/
abbrev law03_SetBack.p5 (K : Value → World → Prop) (x4 : Bool) (w : World) : Prop :=
  K (.bool x4) w
abbrev law03_SetBack.p4 (K : Value → World → Prop) (x5 : Option Addr) (x8 : Option Addr) (x9 : Int) (w : World) : Prop :=
  condP (x9 == (0 : Int)) (CallsE Tryd.prog 19 #[.pointer x8] w (fun v21 w22 => ∃ (A23 : Option Addr) (m24 : Nat) (c25 : Nat), v21 = .slice A23 m24 c25 ∧ CallsE Tryd.prog 19 #[.pointer x5] w22 (fun v26 w27 => ∃ (A28 : Option Addr) (m29 : Nat) (c30 : Nat), v26 = .slice A28 m29 c30 ∧ CallsE Tryd.prog 21 #[.slice A23 m24 c25, .slice A28 m29 c30] w27 (fun v31 w32 => ∃ (b33 : Bool), v31 = .bool b33 ∧ condP b33 (CallsE Tryd.prog 12 #[.pointer x8] w32 (fun v34 w35 => ∃ (n36 : Int), v34 = .int .i64 n36 ∧ CallsE Tryd.prog 12 #[.pointer x5] w35 (fun v37 w38 => ∃ (n39 : Int), v37 = .int .i64 n39 ∧ law03_SetBack.p5 K (n36 == n39) w38))) (law03_SetBack.p5 K false w32))))) (law03_SetBack.p5 K false w)
abbrev law03_SetBack.p3 (K : Value → World → Prop) (x5 : Option Addr) (w : World) : Prop :=
  CallsE Tryd.prog 12 #[.pointer x5] w (fun v9 w10 => ∃ (n11 : Int), v9 = .int .i64 n11 ∧ CallsE Tryd.prog 23 #[.pointer x5] w10 (fun v12 w13 => ∃ (A14 : Option Addr) (m15 : Nat) (c16 : Nat), v12 = .slice A14 m15 c16 ∧ CallsE Tryd.prog 28 #[.int .i64 n11, .slice A14 m15 c16] w13 (fun v17 w18 => ∃ (p19 : Option Addr) (n20 : Int), v17 = .tuple #[.pointer p19, .int .i64 n20] ∧ law03_SetBack.p4 K x5 p19 n20 w18)))
abbrev law03_SetBack.p2 (K : Value → World → Prop) (x5 : Option Addr) (x7 : Bool) (w : World) : Prop :=
  condP (!x7) (K (.bool false) w) (law03_SetBack.p3 K x5 w)
abbrev law03_SetBack.p1 (K : Value → World → Prop) (x0 : Int) (x1A : Option Addr) (x1n : Nat) (x1c : Nat) (w : World) : Prop :=
  CallsE Tryd.prog 11 #[.int .i64 x0, .slice x1A x1n x1c] w (fun v4 w5 => ∃ (p6 : Option Addr) (p7 : Option Addr) (b8 : Bool), v4 = .tuple #[.pointer p6, .pointer p7, .bool b8] ∧ law03_SetBack.p2 K p6 b8 w5)
abbrev law03_SetBack.p0 (K : Value → World → Prop) (x0 : Int) (x1A : Option Addr) (x1n : Nat) (x1c : Nat) (w : World) : Prop :=
  CallsE Tryd.prog 10 #[] w (fun v1 w2 => ∃ (b3 : Bool), v1 = .bool b3 ∧ condP (!b3) (K (.bool false) w2) (law03_SetBack.p1 K x0 x1A x1n x1c w2))
abbrev law03_SetBack.F (q0 : Int) (q1A : Option Addr) (q1n : Nat) (q1c : Nat) (K : Value → World → Prop) (w : World) : Prop :=
  law03_SetBack.p0 K q0 q1A q1n q1c w
theorem law03_SetBack.ok {q0 : Int} {q1A : Option Addr} {q1n : Nat} {q1c : Nat} {K : Value → World → Prop} {w : World} (h : law03_SetBack.F q0 q1A q1n q1c K w) :
    CallsE Tryd.prog 9 #[.int .i64 q0, .slice q1A q1n q1c] w K := by
  refine calls_of_J (n := 45) (rs := [.tmp 4]) Tryd.func9 rfl rfl rfl rfl ?_
  refine J_seq (fun σ w => vI .i64 (σ 0) fun x0 => vS (σ 1) fun x1A x1n x1c => law03_SetBack.p0 K x0 x1A x1n x1c w) ?_ ?_
  ·
    exact sh_sound _ _ _ _ (Eq.mp (by kernel_rfl) h)
  · intro σ w h
    obtain ⟨x0, e0, h⟩ := vI_elim h
    obtain ⟨x1A, x1n, x1c, e1, h⟩ := vS_elim h
    refine J.sub ?_ (((Sub.base _).upd e0).upd e1)
    clear e0 e1
    refine J_seq (fun σ w => vI .i64 (σ 0) fun x0 => vS (σ 1) fun x1A x1n x1c => law03_SetBack.p1 K x0 x1A x1n x1c w) ?_ ?_
    ·
      exact sh_sound _ _ _ _ (Eq.mp (by kernel_rfl) h)
    · intro σ w h
      obtain ⟨x0, e0, h⟩ := vI_elim h
      obtain ⟨x1A, x1n, x1c, e1, h⟩ := vS_elim h
      refine J.sub ?_ (((Sub.base _).upd e0).upd e1)
      clear e0 e1
      refine J_seq (fun σ w => vP (σ 5) fun x5 => vB (σ 7) fun x7 => law03_SetBack.p2 K x5 x7 w) ?_ ?_
      ·
        exact sh_sound _ _ _ _ (Eq.mp (by kernel_rfl) h)
      · intro σ w h
        obtain ⟨x5, e5, h⟩ := vP_elim h
        obtain ⟨x7, e7, h⟩ := vB_elim h
        refine J.sub ?_ (((Sub.base _).upd e5).upd e7)
        clear e5 e7
        refine J_seq (fun σ w => vP (σ 5) fun x5 => law03_SetBack.p3 K x5 w) ?_ ?_
        ·
          exact sh_sound _ _ _ _ (Eq.mp (by kernel_rfl) h)
        · intro σ w h
          obtain ⟨x5, e5, h⟩ := vP_elim h
          refine J.sub ?_ ((Sub.base _).upd e5)
          clear e5
          refine J_seq (fun σ w => vP (σ 5) fun x5 => vP (σ 8) fun x8 => vI .i64 (σ 9) fun x9 => law03_SetBack.p4 K x5 x8 x9 w) ?_ ?_
          ·
            exact sh_sound _ _ _ _ (Eq.mp (by kernel_rfl) h)
          · intro σ w h
            obtain ⟨x5, e5, h⟩ := vP_elim h
            obtain ⟨x8, e8, h⟩ := vP_elim h
            obtain ⟨x9, e9, h⟩ := vI_elim h
            refine J.sub ?_ ((((Sub.base _).upd e5).upd e8).upd e9)
            clear e5 e8 e9
            refine J_seq (fun σ w => vB (σ 4) fun x4 => law03_SetBack.p5 K x4 w) ?_ ?_
            ·
              exact sh_sound _ _ _ _ (Eq.mp (by kernel_rfl) h)
            · intro σ w h
              obtain ⟨x4, e4, h⟩ := vB_elim h
              refine J.sub ?_ ((Sub.base _).upd e4)
              clear e4
              exact sh_sound _ _ _ _ (Eq.mp (by kernel_rfl) h)

/-! ### hayloft/hayloftlaw03.alive: function 10 -/
abbrev law03_alive.p5 (K : Value → World → Prop) (x0 : Bool) (w : World) : Prop :=
  K (.bool x0) w
abbrev law03_alive.p4 (K : Value → World → Prop) (x1 : Option Addr) (x2A : Option Addr) (x2n : Nat) (x2c : Nat) (w : World) : Prop :=
  condP (((x2n : Nat) : Int) == (2 : Int)) ((0 ≤ (0 : Int) ∧ (0 : Int) < ((x2n : Nat) : Int)) ∧ ∃ (a12 : Addr), x2A = some a12 ∧ ∃ (n13 : Int), w.cell? (a12.add ((0 : Int).toNat)) = some (.int .u8 n13) ∧ condP (n13 == (2 : Int)) ((0 ≤ (1 : Int) ∧ (1 : Int) < ((x2n : Nat) : Int)) ∧ ∃ (a14 : Addr), x2A = some a14 ∧ ∃ (n15 : Int), w.cell? (a14.add ((1 : Int).toNat)) = some (.int .u8 n15) ∧ condP (n15 == (2 : Int)) (CallsE Tryd.prog 16 #[.pointer x1] w (fun v16 w17 => ∃ (n18 : Int), v16 = .int .i64 n18 ∧ condP (n18 == (2 : Int)) (CallsE Tryd.prog 13 #[.pointer x1, .int .i64 2] w17 (fun v19 w20 => ∃ (n21 : Int), v19 = .int .i64 n21 ∧ condP (n21 == (9 : Int)) (CallsE Tryd.prog 14 #[.pointer x1, .int .i64 1] w20 (fun v22 w23 => ∃ (n24 : Int), v22 = .int .i64 n24 ∧ condP (n24 == (2 : Int)) (CallsE Tryd.prog 14 #[.pointer x1, .int .i64 9] w23 (fun v25 w26 => ∃ (n27 : Int), v25 = .int .i64 n27 ∧ law03_alive.p5 K (n27 == (-1)) w26)) (law03_alive.p5 K false w23))) (law03_alive.p5 K false w20))) (law03_alive.p5 K false w17))) (law03_alive.p5 K false w)) (law03_alive.p5 K false w)) (law03_alive.p5 K false w)
abbrev law03_alive.p3 (K : Value → World → Prop) (x1 : Option Addr) (w : World) : Prop :=
  CallsE Tryd.prog 23 #[.pointer x1] w (fun v7 w8 => ∃ (A9 : Option Addr) (m10 : Nat) (c11 : Nat), v7 = .slice A9 m10 c11 ∧ law03_alive.p4 K x1 A9 m10 c11 w8)
abbrev law03_alive.p2 (K : Value → World → Prop) (x1 : Option Addr) (x15 : Bool) (w : World) : Prop :=
  condP x15 (K (.bool false) w) (law03_alive.p3 K x1 w)
abbrev law03_alive.p1 (K : Value → World → Prop) (x1 : Option Addr) (w : World) : Prop :=
  CallsE Tryd.prog 18 #[.pointer x1, .int .i64 1] w (fun v4 w5 => ∃ (b6 : Bool), v4 = .bool b6 ∧ condP (!b6) (law03_alive.p2 K x1 true w5) (CallsE Tryd.prog 18 #[.pointer x1, .int .i64 9] w5 (fun v28 w29 => ∃ (b30 : Bool), v28 = .bool b30 ∧ condP (!b30) (law03_alive.p2 K x1 true w29) (CallsE Tryd.prog 18 #[.pointer x1, .int .i64 9] w29 (fun v31 w32 => ∃ (b33 : Bool), v31 = .bool b33 ∧ law03_alive.p2 K x1 b33 w32)))))
abbrev law03_alive.p0 (K : Value → World → Prop) (w : World) : Prop :=
  CallsE Tryd.prog 17 #[.int .i64 10] w (fun v1 w2 => ∃ (p3 : Option Addr), v1 = .pointer p3 ∧ law03_alive.p1 K p3 w2)
abbrev law03_alive.F (K : Value → World → Prop) (w : World) : Prop :=
  law03_alive.p0 K w
theorem law03_alive.ok {K : Value → World → Prop} {w : World} (h : law03_alive.F K w) :
    CallsE Tryd.prog 10 #[] w K := by
  refine calls_of_J (n := 53) (rs := [.tmp 0]) Tryd.func10 rfl rfl rfl rfl ?_
  refine J_seq (fun σ w => law03_alive.p0 K w) ?_ ?_
  ·
    exact sh_sound _ _ _ _ (Eq.mp (by kernel_rfl) h)
  · intro σ w h
    refine J.sub ?_ (Sub.base _)
    refine J_seq (fun σ w => vP (σ 1) fun x1 => law03_alive.p1 K x1 w) ?_ ?_
    ·
      exact sh_sound _ _ _ _ (Eq.mp (by kernel_rfl) h)
    · intro σ w h
      obtain ⟨x1, e1, h⟩ := vP_elim h
      refine J.sub ?_ ((Sub.base _).upd e1)
      clear e1
      refine J_seq (fun σ w => vP (σ 1) fun x1 => law03_alive.p3 K x1 w) ?_ ?_
      ·
        refine J_seq (fun σ w => vP (σ 1) fun x1 => vB (σ 15) fun x15 => law03_alive.p2 K x1 x15 w) ?_ ?_
        ·
          exact sh_sound _ _ _ _ (Eq.mp (by kernel_rfl) h)
        · intro σ w h
          obtain ⟨x1, e1, h⟩ := vP_elim h
          obtain ⟨x15, e15, h⟩ := vB_elim h
          refine J.sub ?_ (((Sub.base _).upd e1).upd e15)
          clear e1 e15
          exact sh_sound _ _ _ _ (Eq.mp (by kernel_rfl) h)
      · intro σ w h
        obtain ⟨x1, e1, h⟩ := vP_elim h
        refine J.sub ?_ ((Sub.base _).upd e1)
        clear e1
        refine J_seq (fun σ w => vP (σ 1) fun x1 => vS (σ 2) fun x2A x2n x2c => law03_alive.p4 K x1 x2A x2n x2c w) ?_ ?_
        ·
          exact sh_sound _ _ _ _ (Eq.mp (by kernel_rfl) h)
        · intro σ w h
          obtain ⟨x1, e1, h⟩ := vP_elim h
          obtain ⟨x2A, x2n, x2c, e2, h⟩ := vS_elim h
          refine J.sub ?_ (((Sub.base _).upd e1).upd e2)
          clear e1 e2
          refine J_seq (fun σ w => vB (σ 0) fun x0 => law03_alive.p5 K x0 w) ?_ ?_
          ·
            exact sh_sound _ _ _ _ (Eq.mp (by kernel_rfl) h)
          · intro σ w h
            obtain ⟨x0, e0, h⟩ := vB_elim h
            refine J.sub ?_ ((Sub.base _).upd e0)
            clear e0
            exact sh_sound _ _ _ _ (Eq.mp (by kernel_rfl) h)

/-! ### hayloft/hayloftlaw03.plays: function 11 -/
abbrev law03_plays.p8 (L0 : Option Addr → Nat → Nat → Option Addr → Option Addr → Int → World → Prop) (K : Value → World → Prop) (x1A : Option Addr) (x1n : Nat) (x1c : Nat) (x7 : Option Addr) (x8 : Option Addr) (x9 : Int) (w : World) : Prop :=
  L0 x1A x1n x1c x7 x8 (IntKind.wrap .i64 (x9 + (1 : Int))) w
abbrev law03_plays.p7 (L0 : Option Addr → Nat → Nat → Option Addr → Option Addr → Int → World → Prop) (K : Value → World → Prop) (x1A : Option Addr) (x1n : Nat) (x1c : Nat) (x7 : Option Addr) (x8 : Option Addr) (x9 : Int) (x11 : Bool) (w : World) : Prop :=
  condP (!x11) (K (.tuple #[.pointer x7, .pointer x8, .bool false]) w) (law03_plays.p8 L0 K x1A x1n x1c x7 x8 x9 w)
abbrev law03_plays.p6 (L0 : Option Addr → Nat → Nat → Option Addr → Option Addr → Int → World → Prop) (K : Value → World → Prop) (x1A : Option Addr) (x1n : Nat) (x1c : Nat) (x7 : Option Addr) (x8 : Option Addr) (x9 : Int) (x10 : Int) (x11 : Bool) (w : World) : Prop :=
  (0 ≤ x9 ∧ x9 < ((x1n : Nat) : Int)) ∧ ∃ (a9 : Addr), x1A = some a9 ∧ ∃ (n10 : Int), w.cell? (a9.add (x9.toNat * 2)) = some (.int .i64 n10) ∧ condP (n10 == (1 : Int)) (CallsE Tryd.prog 18 #[.pointer x7, .int .i64 x10] w (fun v11 w12 => ∃ (b13 : Bool), v11 = .bool b13 ∧ CallsE Tryd.prog 31 #[.pointer x8, .int .i64 x10, .bool true] w12 (fun v14 w15 => ∃ (b16 : Bool), v14 = .bool b16 ∧ law03_plays.p7 L0 K x1A x1n x1c x7 x8 x9 (b13 == b16) w15))) (condP (n10 == (2 : Int)) (CallsE Tryd.prog 26 #[.pointer x7, .int .i64 x10] w (fun v17 w18 => ∃ (b19 : Bool), v17 = .bool b19 ∧ CallsE Tryd.prog 31 #[.pointer x8, .int .i64 x10, .bool false] w18 (fun v20 w21 => ∃ (b22 : Bool), v20 = .bool b22 ∧ law03_plays.p7 L0 K x1A x1n x1c x7 x8 x9 (b19 == b22) w21))) (condP (n10 == (3 : Int)) (CallsE Tryd.prog 15 #[.pointer x7, .int .i64 x10] w (fun v23 w24 => ∃ (b25 : Bool), v23 = .bool b25 ∧ condP (decide ((0 : Int) ≤ x10)) (∃ (a26 : Addr), x8 = some a26 ∧ ∃ (A27 : Option Addr) (m28 : Nat) (c29 : Nat), w24.cell? a26 = some (.slice A27 m28 c29) ∧ condP (decide (x10 < ((m28 : Nat) : Int))) (∃ (a30 : Addr), x8 = some a30 ∧ ∃ (A31 : Option Addr) (m32 : Nat) (c33 : Nat), w24.cell? a30 = some (.slice A31 m32 c33) ∧ (0 ≤ x10 ∧ x10 < ((m32 : Nat) : Int)) ∧ ∃ (a34 : Addr), A31 = some a34 ∧ ∃ (b35 : Bool), w24.cell? (a34.add x10.toNat) = some (.bool b35) ∧ law03_plays.p7 L0 K x1A x1n x1c x7 x8 x9 (b25 == b35) w24) (law03_plays.p7 L0 K x1A x1n x1c x7 x8 x9 (b25 == false) w24)) (law03_plays.p7 L0 K x1A x1n x1c x7 x8 x9 (b25 == false) w24))) (condP (n10 == (4 : Int)) (CallsE Tryd.prog 13 #[.pointer x7, .int .i64 x10] w (fun v36 w37 => ∃ (n38 : Int), v36 = .int .i64 n38 ∧ CallsE Tryd.prog 32 #[.pointer x8, .int .i64 x10, .bool true] w37 (fun v39 w40 => ∃ (n41 : Int), v39 = .int .i64 n41 ∧ law03_plays.p7 L0 K x1A x1n x1c x7 x8 x9 (n38 == n41) w40))) (condP (n10 == (5 : Int)) (CallsE Tryd.prog 14 #[.pointer x7, .int .i64 x10] w (fun v42 w43 => ∃ (n44 : Int), v42 = .int .i64 n44 ∧ CallsE Tryd.prog 32 #[.pointer x8, .int .i64 x10, .bool false] w43 (fun v45 w46 => ∃ (n47 : Int), v45 = .int .i64 n47 ∧ law03_plays.p7 L0 K x1A x1n x1c x7 x8 x9 (n44 == n47) w46))) (law03_plays.p7 L0 K x1A x1n x1c x7 x8 x9 x11 w)))))
abbrev law03_plays.p5 (L0 : Option Addr → Nat → Nat → Option Addr → Option Addr → Int → World → Prop) (K : Value → World → Prop) (x1A : Option Addr) (x1n : Nat) (x1c : Nat) (x7 : Option Addr) (x8 : Option Addr) (x9 : Int) (x10 : Int) (w : World) : Prop :=
  law03_plays.p6 L0 K x1A x1n x1c x7 x8 x9 x10 true w
abbrev law03_plays.p4 (L0 : Option Addr → Nat → Nat → Option Addr → Option Addr → Int → World → Prop) (K : Value → World → Prop) (x1A : Option Addr) (x1n : Nat) (x1c : Nat) (x7 : Option Addr) (x8 : Option Addr) (x9 : Int) (w : World) : Prop :=
  (0 ≤ x9 ∧ x9 < ((x1n : Nat) : Int)) ∧ ∃ (a7 : Addr), x1A = some a7 ∧ ∃ (n8 : Int), w.cell? ((a7.add (x9.toNat * 2)).add 1) = some (.int .i64 n8) ∧ law03_plays.p5 L0 K x1A x1n x1c x7 x8 x9 n8 w
abbrev law03_plays.p9 (K : Value → World → Prop) (x7 : Option Addr) (x8 : Option Addr) (w : World) : Prop :=
  K (.tuple #[.pointer x7, .pointer x8, .bool true]) w
abbrev law03_plays.p3 (L0 : Option Addr → Nat → Nat → Option Addr → Option Addr → Int → World → Prop) (K : Value → World → Prop) (x1A : Option Addr) (x1n : Nat) (x1c : Nat) (x7 : Option Addr) (x8 : Option Addr) (x9 : Int) (x23 : Bool) (w : World) : Prop :=
  condP x23 (law03_plays.p4 L0 K x1A x1n x1c x7 x8 x9 w) (law03_plays.p9 K x7 x8 w)
abbrev law03_plays.b0 (L0 : Option Addr → Nat → Nat → Option Addr → Option Addr → Int → World → Prop) (K : Value → World → Prop) (x1A : Option Addr) (x1n : Nat) (x1c : Nat) (x7 : Option Addr) (x8 : Option Addr) (x9 : Int) (w : World) : Prop :=
  condP (decide (x9 < ((x1n : Nat) : Int))) (law03_plays.p3 L0 K x1A x1n x1c x7 x8 x9 (decide (x9 < (300 : Int))) w) (law03_plays.p3 L0 K x1A x1n x1c x7 x8 x9 false w)
def law03_plays.l0 (K : Value → World → Prop) (k : Nat) : Option Addr → Nat → Nat → Option Addr → Option Addr → Int → World → Prop :=
  Nat.rec (motive := fun _ => Option Addr → Nat → Nat → Option Addr → Option Addr → Int → World → Prop) (fun _ _ _ _ _ _ _ => False) (fun _ ih => law03_plays.b0 ih K) k
theorem law03_plays.l0_succ (K : Value → World → Prop) (k : Nat) (x1A : Option Addr) (x1n : Nat) (x1c : Nat) (x7 : Option Addr) (x8 : Option Addr) (x9 : Int) (w : World) : law03_plays.l0 K (k + 1) x1A x1n x1c x7 x8 x9 w = law03_plays.b0 (law03_plays.l0 K k) K x1A x1n x1c x7 x8 x9 w := rfl
abbrev law03_plays.p2 (K : Value → World → Prop) (x1A : Option Addr) (x1n : Nat) (x1c : Nat) (x7 : Option Addr) (x8 : Option Addr) (x9 : Int) (w : World) : Prop :=
  ∃ k, law03_plays.l0 K k x1A x1n x1c x7 x8 x9 w
abbrev law03_plays.p1 (K : Value → World → Prop) (x1A : Option Addr) (x1n : Nat) (x1c : Nat) (x7 : Option Addr) (x8 : Option Addr) (w : World) : Prop :=
  law03_plays.p2 K x1A x1n x1c x7 x8 0 w
abbrev law03_plays.p0 (K : Value → World → Prop) (x0 : Int) (x1A : Option Addr) (x1n : Nat) (x1c : Nat) (w : World) : Prop :=
  CallsE Tryd.prog 17 #[.int .i64 x0] w (fun v1 w2 => ∃ (p3 : Option Addr), v1 = .pointer p3 ∧ CallsE Tryd.prog 30 #[.int .i64 x0] w2 (fun v4 w5 => ∃ (p6 : Option Addr), v4 = .pointer p6 ∧ law03_plays.p1 K x1A x1n x1c p3 p6 w5))
abbrev law03_plays.F (q0 : Int) (q1A : Option Addr) (q1n : Nat) (q1c : Nat) (K : Value → World → Prop) (w : World) : Prop :=
  law03_plays.p0 K q0 q1A q1n q1c w
theorem law03_plays.ok {q0 : Int} {q1A : Option Addr} {q1n : Nat} {q1c : Nat} {K : Value → World → Prop} {w : World} (h : law03_plays.F q0 q1A q1n q1c K w) :
    CallsE Tryd.prog 11 #[.int .i64 q0, .slice q1A q1n q1c] w K := by
  refine calls_of_J (n := 104) (rs := [.tmp 4, .tmp 5, .tmp 6]) Tryd.func11 rfl rfl rfl rfl ?_
  refine J_seq (fun σ w => vI .i64 (σ 0) fun x0 => vS (σ 1) fun x1A x1n x1c => law03_plays.p0 K x0 x1A x1n x1c w) ?_ ?_
  ·
    exact sh_sound _ _ _ _ (Eq.mp (by kernel_rfl) h)
  · intro σ w h
    obtain ⟨x0, e0, h⟩ := vI_elim h
    obtain ⟨x1A, x1n, x1c, e1, h⟩ := vS_elim h
    refine J.sub ?_ (((Sub.base _).upd e0).upd e1)
    clear e0 e1
    refine J_seq (fun σ w => vS (σ 1) fun x1A x1n x1c => vP (σ 7) fun x7 => vP (σ 8) fun x8 => law03_plays.p1 K x1A x1n x1c x7 x8 w) ?_ ?_
    ·
      exact sh_sound _ _ _ _ (Eq.mp (by kernel_rfl) h)
    · intro σ w h
      obtain ⟨x1A, x1n, x1c, e1, h⟩ := vS_elim h
      obtain ⟨x7, e7, h⟩ := vP_elim h
      obtain ⟨x8, e8, h⟩ := vP_elim h
      refine J.sub ?_ ((((Sub.base _).upd e1).upd e7).upd e8)
      clear e1 e7 e8
      refine J_seq (fun σ w => vP (σ 7) fun x7 => vP (σ 8) fun x8 => law03_plays.p9 K x7 x8 w) ?_ ?_
      ·
        refine J_seq (fun σ w => vS (σ 1) fun x1A x1n x1c => vP (σ 7) fun x7 => vP (σ 8) fun x8 => vI .i64 (σ 9) fun x9 => law03_plays.p2 K x1A x1n x1c x7 x8 x9 w) ?_ ?_
        ·
          exact sh_sound _ _ _ _ (Eq.mp (by kernel_rfl) h)
        · intro σ w h
          obtain ⟨x1A, x1n, x1c, e1, h⟩ := vS_elim h
          obtain ⟨x7, e7, h⟩ := vP_elim h
          obtain ⟨x8, e8, h⟩ := vP_elim h
          obtain ⟨x9, e9, h⟩ := vI_elim h
          refine J.sub ?_ (((((Sub.base _).upd e1).upd e7).upd e8).upd e9)
          clear e1 e7 e8 e9
          refine J_block ?_
          refine J_loop (fun k σ w => vS (σ 1) fun x1A x1n x1c => vP (σ 7) fun x7 => vP (σ 8) fun x8 => vI .i64 (σ 9) fun x9 => law03_plays.l0 K k x1A x1n x1c x7 x8 x9 w) (Eq.mp (by kernel_rfl) h) ?_ ?_
          · intro σ w h
            obtain ⟨x1A, x1n, x1c, e1, h⟩ := vS_elim h
            obtain ⟨x7, e7, h⟩ := vP_elim h
            obtain ⟨x8, e8, h⟩ := vP_elim h
            obtain ⟨x9, e9, h⟩ := vI_elim h
            exact h
          · intro k0 σ w h
            obtain ⟨x1A, x1n, x1c, e1, h⟩ := vS_elim h
            obtain ⟨x7, e7, h⟩ := vP_elim h
            obtain ⟨x8, e8, h⟩ := vP_elim h
            obtain ⟨x9, e9, h⟩ := vI_elim h
            refine J.sub ?_ (((((Sub.base _).upd e1).upd e7).upd e8).upd e9)
            clear e1 e7 e8 e9
            refine J_seq (fun σ w => vS (σ 1) fun x1A x1n x1c => vP (σ 7) fun x7 => vP (σ 8) fun x8 => vI .i64 (σ 9) fun x9 => law03_plays.p4 (law03_plays.l0 K k0) K x1A x1n x1c x7 x8 x9 w) ?_ ?_
            ·
              refine J_seq (fun σ w => vS (σ 1) fun x1A x1n x1c => vP (σ 7) fun x7 => vP (σ 8) fun x8 => vI .i64 (σ 9) fun x9 => vB (σ 23) fun x23 => law03_plays.p3 (law03_plays.l0 K k0) K x1A x1n x1c x7 x8 x9 x23 w) ?_ ?_
              ·
                exact sh_sound _ _ _ _ (Eq.mp (by kernel_rfl) h)
              · intro σ w h
                obtain ⟨x1A, x1n, x1c, e1, h⟩ := vS_elim h
                obtain ⟨x7, e7, h⟩ := vP_elim h
                obtain ⟨x8, e8, h⟩ := vP_elim h
                obtain ⟨x9, e9, h⟩ := vI_elim h
                obtain ⟨x23, e23, h⟩ := vB_elim h
                refine J.sub ?_ ((((((Sub.base _).upd e1).upd e7).upd e8).upd e9).upd e23)
                clear e1 e7 e8 e9 e23
                exact sh_sound _ _ _ _ (Eq.mp (by kernel_rfl) h)
            · intro σ w h
              obtain ⟨x1A, x1n, x1c, e1, h⟩ := vS_elim h
              obtain ⟨x7, e7, h⟩ := vP_elim h
              obtain ⟨x8, e8, h⟩ := vP_elim h
              obtain ⟨x9, e9, h⟩ := vI_elim h
              refine J.sub ?_ (((((Sub.base _).upd e1).upd e7).upd e8).upd e9)
              clear e1 e7 e8 e9
              refine J_seq (fun σ w => vS (σ 1) fun x1A x1n x1c => vP (σ 7) fun x7 => vP (σ 8) fun x8 => vI .i64 (σ 9) fun x9 => law03_plays.p8 (law03_plays.l0 K k0) K x1A x1n x1c x7 x8 x9 w) ?_ ?_
              ·
                refine J_block ?_
                refine J_seq (fun σ w => vS (σ 1) fun x1A x1n x1c => vP (σ 7) fun x7 => vP (σ 8) fun x8 => vI .i64 (σ 9) fun x9 => vI .i64 (σ 10) fun x10 => law03_plays.p5 (law03_plays.l0 K k0) K x1A x1n x1c x7 x8 x9 x10 w) ?_ ?_
                ·
                  exact sh_sound _ _ _ _ (Eq.mp (by kernel_rfl) h)
                · intro σ w h
                  obtain ⟨x1A, x1n, x1c, e1, h⟩ := vS_elim h
                  obtain ⟨x7, e7, h⟩ := vP_elim h
                  obtain ⟨x8, e8, h⟩ := vP_elim h
                  obtain ⟨x9, e9, h⟩ := vI_elim h
                  obtain ⟨x10, e10, h⟩ := vI_elim h
                  refine J.sub ?_ ((((((Sub.base _).upd e1).upd e7).upd e8).upd e9).upd e10)
                  clear e1 e7 e8 e9 e10
                  refine J_seq (fun σ w => vS (σ 1) fun x1A x1n x1c => vP (σ 7) fun x7 => vP (σ 8) fun x8 => vI .i64 (σ 9) fun x9 => vI .i64 (σ 10) fun x10 => vB (σ 11) fun x11 => law03_plays.p6 (law03_plays.l0 K k0) K x1A x1n x1c x7 x8 x9 x10 x11 w) ?_ ?_
                  ·
                    exact sh_sound _ _ _ _ (Eq.mp (by kernel_rfl) h)
                  · intro σ w h
                    obtain ⟨x1A, x1n, x1c, e1, h⟩ := vS_elim h
                    obtain ⟨x7, e7, h⟩ := vP_elim h
                    obtain ⟨x8, e8, h⟩ := vP_elim h
                    obtain ⟨x9, e9, h⟩ := vI_elim h
                    obtain ⟨x10, e10, h⟩ := vI_elim h
                    obtain ⟨x11, e11, h⟩ := vB_elim h
                    refine J.sub ?_ (((((((Sub.base _).upd e1).upd e7).upd e8).upd e9).upd e10).upd e11)
                    clear e1 e7 e8 e9 e10 e11
                    refine J_seq (fun σ w => vS (σ 1) fun x1A x1n x1c => vP (σ 7) fun x7 => vP (σ 8) fun x8 => vI .i64 (σ 9) fun x9 => vB (σ 11) fun x11 => law03_plays.p7 (law03_plays.l0 K k0) K x1A x1n x1c x7 x8 x9 x11 w) ?_ ?_
                    ·
                      exact sh_sound _ _ _ _ (Eq.mp (by kernel_rfl) h)
                    · intro σ w h
                      obtain ⟨x1A, x1n, x1c, e1, h⟩ := vS_elim h
                      obtain ⟨x7, e7, h⟩ := vP_elim h
                      obtain ⟨x8, e8, h⟩ := vP_elim h
                      obtain ⟨x9, e9, h⟩ := vI_elim h
                      obtain ⟨x11, e11, h⟩ := vB_elim h
                      refine J.sub ?_ ((((((Sub.base _).upd e1).upd e7).upd e8).upd e9).upd e11)
                      clear e1 e7 e8 e9 e11
                      exact sh_sound _ _ _ _ (Eq.mp (by kernel_rfl) h)
              · intro σ w h
                obtain ⟨x1A, x1n, x1c, e1, h⟩ := vS_elim h
                obtain ⟨x7, e7, h⟩ := vP_elim h
                obtain ⟨x8, e8, h⟩ := vP_elim h
                obtain ⟨x9, e9, h⟩ := vI_elim h
                refine J.sub ?_ (((((Sub.base _).upd e1).upd e7).upd e8).upd e9)
                clear e1 e7 e8 e9
                exact sh_sound _ _ _ _ (Eq.mp (by kernel_rfl) h)
      · intro σ w h
        obtain ⟨x7, e7, h⟩ := vP_elim h
        obtain ⟨x8, e8, h⟩ := vP_elim h
        refine J.sub ?_ (((Sub.base _).upd e7).upd e8)
        clear e7 e8
        exact sh_sound _ _ _ _ (Eq.mp (by kernel_rfl) h)

/-! ### (*hayloft/set.Set).Len: function 12 -/
abbrev set_Set_Len.F (q0 : Option Addr) (K : Value → World → Prop) (w : World) : Prop :=
  condP q0.isNone (K (.int .i64 0) w) (∃ (a1 : Addr), q0 = some a1 ∧ ∃ (n2 : Int), w.cell? a1 = some (.int .i64 n2) ∧ K (.int .i64 n2) w)
theorem set_Set_Len.ok {q0 : Option Addr} {K : Value → World → Prop} {w : World} (h : set_Set_Len.F q0 K w) :
    CallsE Tryd.prog 12 #[.pointer q0] w K := by
  refine calls_of_J (n := 9) (rs := [.tmp 2]) Tryd.func12 rfl rfl rfl rfl ?_
  exact sh_sound _ _ _ _ (Eq.mp (by kernel_rfl) h)

/-! ### (*hayloft/set.Set).First: function 13 -/
abbrev set_Set_First.F (q0 : Option Addr) (q1 : Int) (K : Value → World → Prop) (w : World) : Prop :=
  CallsE Tryd.prog 33 #[.pointer q0, .int .i64 q1, .int .u64 0] w (fun v1 w2 => ∃ (n3 : Int), v1 = .int .i64 n3 ∧ K (.int .i64 n3) w2)
theorem set_Set_First.ok {q0 : Option Addr} {q1 : Int} {K : Value → World → Prop} {w : World} (h : set_Set_First.F q0 q1 K w) :
    CallsE Tryd.prog 13 #[.pointer q0, .int .i64 q1] w K := by
  refine calls_of_J (n := 8) (rs := [.tmp 4]) Tryd.func13 rfl rfl rfl rfl ?_
  exact sh_sound _ _ _ _ (Eq.mp (by kernel_rfl) h)

/-! ### (*hayloft/set.Set).Gap: function 14 -/
abbrev set_Set_Gap.F (q0 : Option Addr) (q1 : Int) (K : Value → World → Prop) (w : World) : Prop :=
  CallsE Tryd.prog 33 #[.pointer q0, .int .i64 q1, .int .u64 18446744073709551615] w (fun v1 w2 => ∃ (n3 : Int), v1 = .int .i64 n3 ∧ K (.int .i64 n3) w2)
theorem set_Set_Gap.ok {q0 : Option Addr} {q1 : Int} {K : Value → World → Prop} {w : World} (h : set_Set_Gap.F q0 q1 K w) :
    CallsE Tryd.prog 14 #[.pointer q0, .int .i64 q1] w K := by
  refine calls_of_J (n := 8) (rs := [.tmp 4]) Tryd.func14 rfl rfl rfl rfl ?_
  exact sh_sound _ _ _ _ (Eq.mp (by kernel_rfl) h)

/-! ### (*hayloft/set.Set).Has: function 15 -/
abbrev set_Set_Has.p1 (K : Value → World → Prop) (x4 : Bool) (w : World) : Prop :=
  K (.bool x4) w
abbrev set_Set_Has.p0 (K : Value → World → Prop) (x0 : Option Addr) (x1 : Int) (w : World) : Prop :=
  condP (decide ((0 : Int) ≤ x1)) (CallsE Tryd.prog 12 #[.pointer x0] w (fun v1 w2 => ∃ (n3 : Int), v1 = .int .i64 n3 ∧ condP (decide (x1 < n3)) (∃ (a4 : Addr), x0 = some a4 ∧ ∃ (A5 : Option Addr) (m6 : Nat) (c7 : Nat), w2.cell? (a4.add 1) = some (.slice A5 m6 c7) ∧ (64 : Int) ≠ 0 ∧ (0 ≤ (IntKind.wrap .i64 (Int.tdiv x1 64)) ∧ (IntKind.wrap .i64 (Int.tdiv x1 64)) < ((m6 : Nat) : Int)) ∧ ∃ (a8 : Addr), A5 = some a8 ∧ ∃ (n9 : Int), w2.cell? (a8.add ((IntKind.wrap .i64 (Int.tdiv x1 64)).toNat)) = some (.int .u64 n9) ∧ (64 : Int) ≠ 0 ∧ 0 ≤ (Int.tmod x1 64) ∧ set_Set_Has.p1 K ((ibits .and .u64 (ishr .u64 n9 (Int.tmod x1 64)) 1) == (1 : Int)) w2) (set_Set_Has.p1 K false w2))) (set_Set_Has.p1 K false w)
abbrev set_Set_Has.F (q0 : Option Addr) (q1 : Int) (K : Value → World → Prop) (w : World) : Prop :=
  set_Set_Has.p0 K q0 q1 w
theorem set_Set_Has.ok {q0 : Option Addr} {q1 : Int} {K : Value → World → Prop} {w : World} (h : set_Set_Has.F q0 q1 K w) :
    CallsE Tryd.prog 15 #[.pointer q0, .int .i64 q1] w K := by
  refine calls_of_J (n := 28) (rs := [.tmp 4]) Tryd.func15 rfl rfl rfl rfl ?_
  refine J_seq (fun σ w => vP (σ 0) fun x0 => vI .i64 (σ 1) fun x1 => set_Set_Has.p0 K x0 x1 w) ?_ ?_
  ·
    exact sh_sound _ _ _ _ (Eq.mp (by kernel_rfl) h)
  · intro σ w h
    obtain ⟨x0, e0, h⟩ := vP_elim h
    obtain ⟨x1, e1, h⟩ := vI_elim h
    refine J.sub ?_ (((Sub.base _).upd e0).upd e1)
    clear e0 e1
    refine J_seq (fun σ w => vB (σ 4) fun x4 => set_Set_Has.p1 K x4 w) ?_ ?_
    ·
      exact sh_sound _ _ _ _ (Eq.mp (by kernel_rfl) h)
    · intro σ w h
      obtain ⟨x4, e4, h⟩ := vB_elim h
      refine J.sub ?_ ((Sub.base _).upd e4)
      clear e4
      exact sh_sound _ _ _ _ (Eq.mp (by kernel_rfl) h)

/-! ### (*hayloft/set.Set).Count: function 16 -/
abbrev set_Set_Count.p4 (K : Value → World → Prop) (x3 : Int) (w : World) : Prop :=
  K (.int .i64 x3) w
abbrev set_Set_Count.b0 (L0 : Int → Option Addr → Nat → Nat → Int → Int → World → Prop) (K : Value → World → Prop) (x3 : Int) (x11A : Option Addr) (x11n : Nat) (x11c : Nat) (x12 : Int) (x13 : Int) (w : World) : Prop :=
  condP (decide (x13 < x12)) ((0 ≤ x13 ∧ x13 < ((x11n : Nat) : Int)) ∧ ∃ (a5 : Addr), x11A = some a5 ∧ ∃ (n6 : Int), w.cell? (a5.add x13.toNat) = some (.int .u64 n6) ∧ CallsE Tryd.prog 34 #[.int .u64 n6] w (fun v7 w8 => ∃ (n9 : Int), v7 = .int .i64 n9 ∧ L0 (IntKind.wrap .i64 (x3 + n9)) x11A x11n x11c x12 (IntKind.wrap .i64 (x13 + (1 : Int))) w8)) (set_Set_Count.p4 K x3 w)
def set_Set_Count.l0 (K : Value → World → Prop) (k : Nat) : Int → Option Addr → Nat → Nat → Int → Int → World → Prop :=
  Nat.rec (motive := fun _ => Int → Option Addr → Nat → Nat → Int → Int → World → Prop) (fun _ _ _ _ _ _ _ => False) (fun _ ih => set_Set_Count.b0 ih K) k
theorem set_Set_Count.l0_succ (K : Value → World → Prop) (k : Nat) (x3 : Int) (x11A : Option Addr) (x11n : Nat) (x11c : Nat) (x12 : Int) (x13 : Int) (w : World) : set_Set_Count.l0 K (k + 1) x3 x11A x11n x11c x12 x13 w = set_Set_Count.b0 (set_Set_Count.l0 K k) K x3 x11A x11n x11c x12 x13 w := rfl
abbrev set_Set_Count.p3 (K : Value → World → Prop) (x3 : Int) (x11A : Option Addr) (x11n : Nat) (x11c : Nat) (x12 : Int) (x13 : Int) (w : World) : Prop :=
  ∃ k, set_Set_Count.l0 K k x3 x11A x11n x11c x12 x13 w
abbrev set_Set_Count.p2 (K : Value → World → Prop) (x0 : Option Addr) (x3 : Int) (w : World) : Prop :=
  ∃ (a1 : Addr), x0 = some a1 ∧ ∃ (A2 : Option Addr) (m3 : Nat) (c4 : Nat), w.cell? (a1.add 1) = some (.slice A2 m3 c4) ∧ set_Set_Count.p3 K x3 A2 m3 c4 ((m3 : Nat) : Int) 0 w
abbrev set_Set_Count.p1 (K : Value → World → Prop) (x0 : Option Addr) (w : World) : Prop :=
  set_Set_Count.p2 K x0 0 w
abbrev set_Set_Count.p0 (K : Value → World → Prop) (x0 : Option Addr) (w : World) : Prop :=
  condP x0.isNone (K (.int .i64 0) w) (set_Set_Count.p1 K x0 w)
abbrev set_Set_Count.F (q0 : Option Addr) (K : Value → World → Prop) (w : World) : Prop :=
  set_Set_Count.p0 K q0 w
theorem set_Set_Count.ok {q0 : Option Addr} {K : Value → World → Prop} {w : World} (h : set_Set_Count.F q0 K w) :
    CallsE Tryd.prog 16 #[.pointer q0] w K := by
  refine calls_of_J (n := 23) (rs := [.tmp 2]) Tryd.func16 rfl rfl rfl rfl ?_
  refine J_seq (fun σ w => vP (σ 0) fun x0 => set_Set_Count.p0 K x0 w) ?_ ?_
  ·
    exact sh_sound _ _ _ _ (Eq.mp (by kernel_rfl) h)
  · intro σ w h
    obtain ⟨x0, e0, h⟩ := vP_elim h
    refine J.sub ?_ ((Sub.base _).upd e0)
    clear e0
    refine J_seq (fun σ w => vP (σ 0) fun x0 => set_Set_Count.p1 K x0 w) ?_ ?_
    ·
      exact sh_sound _ _ _ _ (Eq.mp (by kernel_rfl) h)
    · intro σ w h
      obtain ⟨x0, e0, h⟩ := vP_elim h
      refine J.sub ?_ ((Sub.base _).upd e0)
      clear e0
      refine J_seq (fun σ w => vP (σ 0) fun x0 => vI .i64 (σ 3) fun x3 => set_Set_Count.p2 K x0 x3 w) ?_ ?_
      ·
        exact sh_sound _ _ _ _ (Eq.mp (by kernel_rfl) h)
      · intro σ w h
        obtain ⟨x0, e0, h⟩ := vP_elim h
        obtain ⟨x3, e3, h⟩ := vI_elim h
        refine J.sub ?_ (((Sub.base _).upd e0).upd e3)
        clear e0 e3
        refine J_seq (fun σ w => vI .i64 (σ 3) fun x3 => set_Set_Count.p4 K x3 w) ?_ ?_
        ·
          refine J_seq (fun σ w => vI .i64 (σ 3) fun x3 => vS (σ 11) fun x11A x11n x11c => vI .i64 (σ 12) fun x12 => vI .i64 (σ 13) fun x13 => set_Set_Count.p3 K x3 x11A x11n x11c x12 x13 w) ?_ ?_
          ·
            exact sh_sound _ _ _ _ (Eq.mp (by kernel_rfl) h)
          · intro σ w h
            obtain ⟨x3, e3, h⟩ := vI_elim h
            obtain ⟨x11A, x11n, x11c, e11, h⟩ := vS_elim h
            obtain ⟨x12, e12, h⟩ := vI_elim h
            obtain ⟨x13, e13, h⟩ := vI_elim h
            refine J.sub ?_ (((((Sub.base _).upd e3).upd e11).upd e12).upd e13)
            clear e3 e11 e12 e13
            refine J_block ?_
            refine J_loop (fun k σ w => vI .i64 (σ 3) fun x3 => vS (σ 11) fun x11A x11n x11c => vI .i64 (σ 12) fun x12 => vI .i64 (σ 13) fun x13 => set_Set_Count.l0 K k x3 x11A x11n x11c x12 x13 w) (Eq.mp (by kernel_rfl) h) ?_ ?_
            · intro σ w h
              obtain ⟨x3, e3, h⟩ := vI_elim h
              obtain ⟨x11A, x11n, x11c, e11, h⟩ := vS_elim h
              obtain ⟨x12, e12, h⟩ := vI_elim h
              obtain ⟨x13, e13, h⟩ := vI_elim h
              exact h
            · intro k0 σ w h
              obtain ⟨x3, e3, h⟩ := vI_elim h
              obtain ⟨x11A, x11n, x11c, e11, h⟩ := vS_elim h
              obtain ⟨x12, e12, h⟩ := vI_elim h
              obtain ⟨x13, e13, h⟩ := vI_elim h
              refine J.sub ?_ (((((Sub.base _).upd e3).upd e11).upd e12).upd e13)
              clear e3 e11 e12 e13
              exact sh_sound _ _ _ _ (Eq.mp (by kernel_rfl) h)
        · intro σ w h
          obtain ⟨x3, e3, h⟩ := vI_elim h
          refine J.sub ?_ ((Sub.base _).upd e3)
          clear e3
          exact sh_sound _ _ _ _ (Eq.mp (by kernel_rfl) h)

/-! ### hayloft/set.New: function 17 -/
abbrev set_New.F (q0 : Int) (K : Value → World → Prop) (w : World) : Prop :=
  (64 : Int) ≠ 0 ∧ (0 ≤ (IntKind.wrap .i64 (Int.tdiv (IntKind.wrap .i64 ((imax 0 (imin q0 65536)) + (63 : Int))) 64)) ∧ (IntKind.wrap .i64 (Int.tdiv (IntKind.wrap .i64 ((imax 0 (imin q0 65536)) + (63 : Int))) 64)) ≤ (IntKind.wrap .i64 (Int.tdiv (IntKind.wrap .i64 ((imax 0 (imin q0 65536)) + (63 : Int))) 64)) ∧ (8 : Int) * (IntKind.wrap .i64 (Int.tdiv (IntKind.wrap .i64 ((imax 0 (imin q0 65536)) + (63 : Int))) 64)) ≤ 281474976710656 ∧ (IntKind.wrap .i64 (Int.tdiv (IntKind.wrap .i64 ((imax 0 (imin q0 65536)) + (63 : Int))) 64)) ≤ 9223372036854775807) ∧ wlet (w.alloc (.cells (madeCells #[.int .u64 0] ((IntKind.wrap .i64 (Int.tdiv (IntKind.wrap .i64 ((imax 0 (imin q0 65536)) + (63 : Int))) 64)).toNat * 1)) 63)) fun w1 => wlet (w1.alloc (.cells #[.int .i64 (imax 0 (imin q0 65536)), .slice (some ⟨w.heap.size, 0, none⟩) ((IntKind.wrap .i64 (Int.tdiv (IntKind.wrap .i64 ((imax 0 (imin q0 65536)) + (63 : Int))) 64)).toNat) ((IntKind.wrap .i64 (Int.tdiv (IntKind.wrap .i64 ((imax 0 (imin q0 65536)) + (63 : Int))) 64)).toNat)] 61)) fun w2 => K (.pointer (some (⟨w1.heap.size, 0, none⟩))) w2
theorem set_New.ok {q0 : Int} {K : Value → World → Prop} {w : World} (h : set_New.F q0 K w) :
    CallsE Tryd.prog 17 #[.int .i64 q0] w K := by
  refine calls_of_J (n := 13) (rs := [.tmp 2]) Tryd.func17 rfl rfl rfl rfl ?_
  exact sh_sound _ _ _ _ (Eq.mp (by kernel_rfl) h)

/-! ### (*hayloft/set.Set).Add: function 18 -/
abbrev set_Set_Add.p3 (K : Value → World → Prop) (w : World) : Prop :=
  K (.bool true) w
abbrev set_Set_Add.p2 (K : Value → World → Prop) (x0 : Option Addr) (x1 : Int) (w : World) : Prop :=
  ∃ (S1 : Array Obj → Prop), S1 w.heap ∧ ∃ (a2 : Addr), x0 = some a2 ∧ (64 : Int) ≠ 0 ∧ (64 : Int) ≠ 0 ∧ 0 ≤ (Int.tmod x1 64) ∧ ∃ (A3 : Option Addr) (m4 : Nat) (c5 : Nat), (∀ w' : World, S1 w'.heap → w'.cell? (a2.add 1) = some (.slice A3 m4 c5)) ∧ (0 ≤ (IntKind.wrap .i64 (Int.tdiv x1 64)) ∧ (IntKind.wrap .i64 (Int.tdiv x1 64)) < ((m4 : Nat) : Int)) ∧ ∃ (a6 : Addr), A3 = some a6 ∧ ∃ (n7 : Int), (∀ w' : World, S1 w'.heap → w'.cell? (a6.add ((IntKind.wrap .i64 (Int.tdiv x1 64)).toNat)) = some (.int .u64 n7)) ∧ (0 ≤ (IntKind.wrap .i64 (Int.tdiv x1 64)) ∧ (IntKind.wrap .i64 (Int.tdiv x1 64)) < ((m4 : Nat) : Int)) ∧ ∃ (a8 : Addr), A3 = some a8 ∧ canStore w (a8.add ((IntKind.wrap .i64 (Int.tdiv x1 64)).toNat)) ∧ wlet (w.setCell (a8.add ((IntKind.wrap .i64 (Int.tdiv x1 64)).toNat)) (.int .u64 (ibits .or .u64 n7 (ishl .u64 1 (Int.tmod x1 64))))) fun w9 => set_Set_Add.p3 K w9
abbrev set_Set_Add.p1 (K : Value → World → Prop) (x0 : Option Addr) (x1 : Int) (x17 : Bool) (w : World) : Prop :=
  condP x17 (K (.bool false) w) (set_Set_Add.p2 K x0 x1 w)
abbrev set_Set_Add.p0 (K : Value → World → Prop) (x0 : Option Addr) (x1 : Int) (w : World) : Prop :=
  condP (decide (x1 < (0 : Int))) (set_Set_Add.p1 K x0 x1 true w) (CallsE Tryd.prog 12 #[.pointer x0] w (fun v10 w11 => ∃ (n12 : Int), v10 = .int .i64 n12 ∧ condP (decide (n12 ≤ x1)) (set_Set_Add.p1 K x0 x1 true w11) (CallsE Tryd.prog 15 #[.pointer x0, .int .i64 x1] w11 (fun v13 w14 => ∃ (b15 : Bool), v13 = .bool b15 ∧ set_Set_Add.p1 K x0 x1 b15 w14))))
abbrev set_Set_Add.F (q0 : Option Addr) (q1 : Int) (K : Value → World → Prop) (w : World) : Prop :=
  set_Set_Add.p0 K q0 q1 w
theorem set_Set_Add.ok {q0 : Option Addr} {q1 : Int} {K : Value → World → Prop} {w : World} (h : set_Set_Add.F q0 q1 K w) :
    CallsE Tryd.prog 18 #[.pointer q0, .int .i64 q1] w K := by
  refine calls_of_J (n := 31) (rs := [.tmp 4]) Tryd.func18 rfl rfl rfl rfl ?_
  refine J_seq (fun σ w => vP (σ 0) fun x0 => vI .i64 (σ 1) fun x1 => set_Set_Add.p0 K x0 x1 w) ?_ ?_
  ·
    exact sh_sound _ _ _ _ (Eq.mp (by kernel_rfl) h)
  · intro σ w h
    obtain ⟨x0, e0, h⟩ := vP_elim h
    obtain ⟨x1, e1, h⟩ := vI_elim h
    refine J.sub ?_ (((Sub.base _).upd e0).upd e1)
    clear e0 e1
    refine J_seq (fun σ w => vP (σ 0) fun x0 => vI .i64 (σ 1) fun x1 => set_Set_Add.p2 K x0 x1 w) ?_ ?_
    ·
      refine J_seq (fun σ w => vP (σ 0) fun x0 => vI .i64 (σ 1) fun x1 => vB (σ 17) fun x17 => set_Set_Add.p1 K x0 x1 x17 w) ?_ ?_
      ·
        exact sh_sound _ _ _ _ (Eq.mp (by kernel_rfl) h)
      · intro σ w h
        obtain ⟨x0, e0, h⟩ := vP_elim h
        obtain ⟨x1, e1, h⟩ := vI_elim h
        obtain ⟨x17, e17, h⟩ := vB_elim h
        refine J.sub ?_ ((((Sub.base _).upd e0).upd e1).upd e17)
        clear e0 e1 e17
        exact sh_sound _ _ _ _ (Eq.mp (by kernel_rfl) h)
    · intro σ w h
      obtain ⟨x0, e0, h⟩ := vP_elim h
      obtain ⟨x1, e1, h⟩ := vI_elim h
      refine J.sub ?_ (((Sub.base _).upd e0).upd e1)
      clear e0 e1
      refine J_seq (fun σ w => set_Set_Add.p3 K w) ?_ ?_
      ·
        exact J_held [13] [(0, 0), (1, 0), (2, 0), (4, 0), (5, 0), (8, 0), (9, 0), (10, 0), (3, 1), (6, 0), (7, 1), (11, 0), (12, 0), (13, 3)] (by kernel_rfl) (Eq.mp (by kernel_rfl) h)
      · intro σ w h
        refine J.sub ?_ (Sub.base _)
        exact sh_sound _ _ _ _ (Eq.mp (by kernel_rfl) h)

/-! ### (*hayloft/set.Set).List: function 19 -/
abbrev set_Set_List.p3 (K : Value → World → Prop) (x3A : Option Addr) (x3n : Nat) (x3c : Nat) (w : World) : Prop :=
  K (.slice x3A x3n x3c) w
abbrev set_Set_List.b0 (L0 : Option Addr → Option Addr → Nat → Nat → Int → World → Prop) (K : Value → World → Prop) (x0 : Option Addr) (x3A : Option Addr) (x3n : Nat) (x3c : Nat) (x4 : Int) (w : World) : Prop :=
  condP (decide ((0 : Int) ≤ x4)) (wlet (w.alloc (.cells #[.int .i64 x4] 3)) fun w4 => SemJ Tryd.prog (Builtin.append_ #[33, 33] 33 #[.slice x3A x3n x3c, .slice (some ⟨w.heap.size, 0, none⟩) 1 1]) (fun v5 w6 => ∃ (A7 : Option Addr) (m8 : Nat) (c9 : Nat), v5 = .slice A7 m8 c9 ∧ CallsE Tryd.prog 13 #[.pointer x0, .int .i64 (IntKind.wrap .i64 (x4 + (1 : Int)))] w6 (fun v10 w11 => ∃ (n12 : Int), v10 = .int .i64 n12 ∧ L0 x0 A7 m8 c9 n12 w11)) w4) (set_Set_List.p3 K x3A x3n x3c w)
def set_Set_List.l0 (K : Value → World → Prop) (k : Nat) : Option Addr → Option Addr → Nat → Nat → Int → World → Prop :=
  Nat.rec (motive := fun _ => Option Addr → Option Addr → Nat → Nat → Int → World → Prop) (fun _ _ _ _ _ _ => False) (fun _ ih => set_Set_List.b0 ih K) k
theorem set_Set_List.l0_succ (K : Value → World → Prop) (k : Nat) (x0 : Option Addr) (x3A : Option Addr) (x3n : Nat) (x3c : Nat) (x4 : Int) (w : World) : set_Set_List.l0 K (k + 1) x0 x3A x3n x3c x4 w = set_Set_List.b0 (set_Set_List.l0 K k) K x0 x3A x3n x3c x4 w := rfl
abbrev set_Set_List.p2 (K : Value → World → Prop) (x0 : Option Addr) (x3A : Option Addr) (x3n : Nat) (x3c : Nat) (x4 : Int) (w : World) : Prop :=
  ∃ k, set_Set_List.l0 K k x0 x3A x3n x3c x4 w
abbrev set_Set_List.p1 (K : Value → World → Prop) (x0 : Option Addr) (x3A : Option Addr) (x3n : Nat) (x3c : Nat) (w : World) : Prop :=
  CallsE Tryd.prog 13 #[.pointer x0, .int .i64 0] w (fun v1 w2 => ∃ (n3 : Int), v1 = .int .i64 n3 ∧ set_Set_List.p2 K x0 x3A x3n x3c n3 w2)
abbrev set_Set_List.p0 (K : Value → World → Prop) (x0 : Option Addr) (w : World) : Prop :=
  set_Set_List.p1 K x0 none 0 0 w
abbrev set_Set_List.F (q0 : Option Addr) (K : Value → World → Prop) (w : World) : Prop :=
  set_Set_List.p0 K q0 w
theorem set_Set_List.ok {q0 : Option Addr} {K : Value → World → Prop} {w : World} (h : set_Set_List.F q0 K w) :
    CallsE Tryd.prog 19 #[.pointer q0] w K := by
  refine calls_of_J (n := 18) (rs := [.tmp 2]) Tryd.func19 rfl rfl rfl rfl ?_
  refine J_seq (fun σ w => vP (σ 0) fun x0 => set_Set_List.p0 K x0 w) ?_ ?_
  ·
    exact sh_sound _ _ _ _ (Eq.mp (by kernel_rfl) h)
  · intro σ w h
    obtain ⟨x0, e0, h⟩ := vP_elim h
    refine J.sub ?_ ((Sub.base _).upd e0)
    clear e0
    refine J_seq (fun σ w => vP (σ 0) fun x0 => vS (σ 3) fun x3A x3n x3c => set_Set_List.p1 K x0 x3A x3n x3c w) ?_ ?_
    ·
      exact sh_sound _ _ _ _ (Eq.mp (by kernel_rfl) h)
    · intro σ w h
      obtain ⟨x0, e0, h⟩ := vP_elim h
      obtain ⟨x3A, x3n, x3c, e3, h⟩ := vS_elim h
      refine J.sub ?_ (((Sub.base _).upd e0).upd e3)
      clear e0 e3
      refine J_seq (fun σ w => vS (σ 3) fun x3A x3n x3c => set_Set_List.p3 K x3A x3n x3c w) ?_ ?_
      ·
        refine J_seq (fun σ w => vP (σ 0) fun x0 => vS (σ 3) fun x3A x3n x3c => vI .i64 (σ 4) fun x4 => set_Set_List.p2 K x0 x3A x3n x3c x4 w) ?_ ?_
        ·
          exact sh_sound _ _ _ _ (Eq.mp (by kernel_rfl) h)
        · intro σ w h
          obtain ⟨x0, e0, h⟩ := vP_elim h
          obtain ⟨x3A, x3n, x3c, e3, h⟩ := vS_elim h
          obtain ⟨x4, e4, h⟩ := vI_elim h
          refine J.sub ?_ ((((Sub.base _).upd e0).upd e3).upd e4)
          clear e0 e3 e4
          refine J_block ?_
          refine J_loop (fun k σ w => vP (σ 0) fun x0 => vS (σ 3) fun x3A x3n x3c => vI .i64 (σ 4) fun x4 => set_Set_List.l0 K k x0 x3A x3n x3c x4 w) (Eq.mp (by kernel_rfl) h) ?_ ?_
          · intro σ w h
            obtain ⟨x0, e0, h⟩ := vP_elim h
            obtain ⟨x3A, x3n, x3c, e3, h⟩ := vS_elim h
            obtain ⟨x4, e4, h⟩ := vI_elim h
            exact h
          · intro k0 σ w h
            obtain ⟨x0, e0, h⟩ := vP_elim h
            obtain ⟨x3A, x3n, x3c, e3, h⟩ := vS_elim h
            obtain ⟨x4, e4, h⟩ := vI_elim h
            refine J.sub ?_ ((((Sub.base _).upd e0).upd e3).upd e4)
            clear e0 e3 e4
            exact sh_sound _ _ _ _ (Eq.mp (by kernel_rfl) h)
      · intro σ w h
        obtain ⟨x3A, x3n, x3c, e3, h⟩ := vS_elim h
        refine J.sub ?_ ((Sub.base _).upd e3)
        clear e3
        exact sh_sound _ _ _ _ (Eq.mp (by kernel_rfl) h)

/-! ### (*hayloft/hayloftref03.Set).List: function 20 -/
abbrev ref03_Set_List.p5 (L0 : Option Addr → Option Addr → Nat → Nat → Int → Int → World → Prop) (K : Value → World → Prop) (x0 : Option Addr) (x3A : Option Addr) (x3n : Nat) (x3c : Nat) (x9 : Int) (x10 : Int) (w : World) : Prop :=
  L0 x0 x3A x3n x3c x9 (IntKind.wrap .i64 (x10 + (1 : Int))) w
abbrev ref03_Set_List.p4 (L0 : Option Addr → Option Addr → Nat → Nat → Int → Int → World → Prop) (K : Value → World → Prop) (x0 : Option Addr) (x3A : Option Addr) (x3n : Nat) (x3c : Nat) (x9 : Int) (x10 : Int) (w : World) : Prop :=
  ∃ (a5 : Addr), x0 = some a5 ∧ ∃ (A6 : Option Addr) (m7 : Nat) (c8 : Nat), w.cell? a5 = some (.slice A6 m7 c8) ∧ (0 ≤ x10 ∧ x10 < ((m7 : Nat) : Int)) ∧ ∃ (a9 : Addr), A6 = some a9 ∧ ∃ (b10 : Bool), w.cell? (a9.add x10.toNat) = some (.bool b10) ∧ condP b10 (wlet (w.alloc (.cells #[.int .i64 x10] 3)) fun w11 => SemJ Tryd.prog (Builtin.append_ #[33, 33] 33 #[.slice x3A x3n x3c, .slice (some ⟨w.heap.size, 0, none⟩) 1 1]) (fun v12 w13 => ∃ (A14 : Option Addr) (m15 : Nat) (c16 : Nat), v12 = .slice A14 m15 c16 ∧ ref03_Set_List.p5 L0 K x0 A14 m15 c16 x9 x10 w13) w11) (ref03_Set_List.p5 L0 K x0 x3A x3n x3c x9 x10 w)
abbrev ref03_Set_List.p6 (K : Value → World → Prop) (x3A : Option Addr) (x3n : Nat) (x3c : Nat) (w : World) : Prop :=
  K (.slice x3A x3n x3c) w
abbrev ref03_Set_List.p3 (L0 : Option Addr → Option Addr → Nat → Nat → Int → Int → World → Prop) (K : Value → World → Prop) (x0 : Option Addr) (x3A : Option Addr) (x3n : Nat) (x3c : Nat) (x9 : Int) (x10 : Int) (x11 : Bool) (w : World) : Prop :=
  condP x11 (ref03_Set_List.p4 L0 K x0 x3A x3n x3c x9 x10 w) (ref03_Set_List.p6 K x3A x3n x3c w)
abbrev ref03_Set_List.b0 (L0 : Option Addr → Option Addr → Nat → Nat → Int → Int → World → Prop) (K : Value → World → Prop) (x0 : Option Addr) (x3A : Option Addr) (x3n : Nat) (x3c : Nat) (x9 : Int) (x10 : Int) (w : World) : Prop :=
  ref03_Set_List.p3 L0 K x0 x3A x3n x3c x9 x10 (decide (x10 < x9)) w
def ref03_Set_List.l0 (K : Value → World → Prop) (k : Nat) : Option Addr → Option Addr → Nat → Nat → Int → Int → World → Prop :=
  Nat.rec (motive := fun _ => Option Addr → Option Addr → Nat → Nat → Int → Int → World → Prop) (fun _ _ _ _ _ _ _ => False) (fun _ ih => ref03_Set_List.b0 ih K) k
theorem ref03_Set_List.l0_succ (K : Value → World → Prop) (k : Nat) (x0 : Option Addr) (x3A : Option Addr) (x3n : Nat) (x3c : Nat) (x9 : Int) (x10 : Int) (w : World) : ref03_Set_List.l0 K (k + 1) x0 x3A x3n x3c x9 x10 w = ref03_Set_List.b0 (ref03_Set_List.l0 K k) K x0 x3A x3n x3c x9 x10 w := rfl
abbrev ref03_Set_List.p2 (K : Value → World → Prop) (x0 : Option Addr) (x3A : Option Addr) (x3n : Nat) (x3c : Nat) (x9 : Int) (x10 : Int) (w : World) : Prop :=
  ∃ k, ref03_Set_List.l0 K k x0 x3A x3n x3c x9 x10 w
abbrev ref03_Set_List.p1 (K : Value → World → Prop) (x0 : Option Addr) (x3A : Option Addr) (x3n : Nat) (x3c : Nat) (w : World) : Prop :=
  ∃ (a1 : Addr), x0 = some a1 ∧ ∃ (A2 : Option Addr) (m3 : Nat) (c4 : Nat), w.cell? a1 = some (.slice A2 m3 c4) ∧ ref03_Set_List.p2 K x0 x3A x3n x3c ((m3 : Nat) : Int) 0 w
abbrev ref03_Set_List.p0 (K : Value → World → Prop) (x0 : Option Addr) (w : World) : Prop :=
  ref03_Set_List.p1 K x0 none 0 0 w
abbrev ref03_Set_List.F (q0 : Option Addr) (K : Value → World → Prop) (w : World) : Prop :=
  ref03_Set_List.p0 K q0 w
theorem ref03_Set_List.ok {q0 : Option Addr} {K : Value → World → Prop} {w : World} (h : ref03_Set_List.F q0 K w) :
    CallsE Tryd.prog 20 #[.pointer q0] w K := by
  refine calls_of_J (n := 26) (rs := [.tmp 2]) Tryd.func20 rfl rfl rfl rfl ?_
  refine J_seq (fun σ w => vP (σ 0) fun x0 => ref03_Set_List.p0 K x0 w) ?_ ?_
  ·
    exact sh_sound _ _ _ _ (Eq.mp (by kernel_rfl) h)
  · intro σ w h
    obtain ⟨x0, e0, h⟩ := vP_elim h
    refine J.sub ?_ ((Sub.base _).upd e0)
    clear e0
    refine J_seq (fun σ w => vP (σ 0) fun x0 => vS (σ 3) fun x3A x3n x3c => ref03_Set_List.p1 K x0 x3A x3n x3c w) ?_ ?_
    ·
      exact sh_sound _ _ _ _ (Eq.mp (by kernel_rfl) h)
    · intro σ w h
      obtain ⟨x0, e0, h⟩ := vP_elim h
      obtain ⟨x3A, x3n, x3c, e3, h⟩ := vS_elim h
      refine J.sub ?_ (((Sub.base _).upd e0).upd e3)
      clear e0 e3
      refine J_seq (fun σ w => vS (σ 3) fun x3A x3n x3c => ref03_Set_List.p6 K x3A x3n x3c w) ?_ ?_
      ·
        refine J_seq (fun σ w => vP (σ 0) fun x0 => vS (σ 3) fun x3A x3n x3c => vI .i64 (σ 9) fun x9 => vI .i64 (σ 10) fun x10 => ref03_Set_List.p2 K x0 x3A x3n x3c x9 x10 w) ?_ ?_
        ·
          exact sh_sound _ _ _ _ (Eq.mp (by kernel_rfl) h)
        · intro σ w h
          obtain ⟨x0, e0, h⟩ := vP_elim h
          obtain ⟨x3A, x3n, x3c, e3, h⟩ := vS_elim h
          obtain ⟨x9, e9, h⟩ := vI_elim h
          obtain ⟨x10, e10, h⟩ := vI_elim h
          refine J.sub ?_ (((((Sub.base _).upd e0).upd e3).upd e9).upd e10)
          clear e0 e3 e9 e10
          refine J_block ?_
          refine J_loop (fun k σ w => vP (σ 0) fun x0 => vS (σ 3) fun x3A x3n x3c => vI .i64 (σ 9) fun x9 => vI .i64 (σ 10) fun x10 => ref03_Set_List.l0 K k x0 x3A x3n x3c x9 x10 w) (Eq.mp (by kernel_rfl) h) ?_ ?_
          · intro σ w h
            obtain ⟨x0, e0, h⟩ := vP_elim h
            obtain ⟨x3A, x3n, x3c, e3, h⟩ := vS_elim h
            obtain ⟨x9, e9, h⟩ := vI_elim h
            obtain ⟨x10, e10, h⟩ := vI_elim h
            exact h
          · intro k0 σ w h
            obtain ⟨x0, e0, h⟩ := vP_elim h
            obtain ⟨x3A, x3n, x3c, e3, h⟩ := vS_elim h
            obtain ⟨x9, e9, h⟩ := vI_elim h
            obtain ⟨x10, e10, h⟩ := vI_elim h
            refine J.sub ?_ (((((Sub.base _).upd e0).upd e3).upd e9).upd e10)
            clear e0 e3 e9 e10
            refine J_seq (fun σ w => vP (σ 0) fun x0 => vS (σ 3) fun x3A x3n x3c => vI .i64 (σ 9) fun x9 => vI .i64 (σ 10) fun x10 => vB (σ 11) fun x11 => ref03_Set_List.p3 (ref03_Set_List.l0 K k0) K x0 x3A x3n x3c x9 x10 x11 w) ?_ ?_
            ·
              exact sh_sound _ _ _ _ (Eq.mp (by kernel_rfl) h)
            · intro σ w h
              obtain ⟨x0, e0, h⟩ := vP_elim h
              obtain ⟨x3A, x3n, x3c, e3, h⟩ := vS_elim h
              obtain ⟨x9, e9, h⟩ := vI_elim h
              obtain ⟨x10, e10, h⟩ := vI_elim h
              obtain ⟨x11, e11, h⟩ := vB_elim h
              refine J.sub ?_ ((((((Sub.base _).upd e0).upd e3).upd e9).upd e10).upd e11)
              clear e0 e3 e9 e10 e11
              refine J_seq (fun σ w => vP (σ 0) fun x0 => vS (σ 3) fun x3A x3n x3c => vI .i64 (σ 9) fun x9 => vI .i64 (σ 10) fun x10 => ref03_Set_List.p4 (ref03_Set_List.l0 K k0) K x0 x3A x3n x3c x9 x10 w) ?_ ?_
              ·
                exact sh_sound _ _ _ _ (Eq.mp (by kernel_rfl) h)
              · intro σ w h
                obtain ⟨x0, e0, h⟩ := vP_elim h
                obtain ⟨x3A, x3n, x3c, e3, h⟩ := vS_elim h
                obtain ⟨x9, e9, h⟩ := vI_elim h
                obtain ⟨x10, e10, h⟩ := vI_elim h
                refine J.sub ?_ (((((Sub.base _).upd e0).upd e3).upd e9).upd e10)
                clear e0 e3 e9 e10
                refine J_seq (fun σ w => vP (σ 0) fun x0 => vS (σ 3) fun x3A x3n x3c => vI .i64 (σ 9) fun x9 => vI .i64 (σ 10) fun x10 => ref03_Set_List.p5 (ref03_Set_List.l0 K k0) K x0 x3A x3n x3c x9 x10 w) ?_ ?_
                ·
                  exact sh_sound _ _ _ _ (Eq.mp (by kernel_rfl) h)
                · intro σ w h
                  obtain ⟨x0, e0, h⟩ := vP_elim h
                  obtain ⟨x3A, x3n, x3c, e3, h⟩ := vS_elim h
                  obtain ⟨x9, e9, h⟩ := vI_elim h
                  obtain ⟨x10, e10, h⟩ := vI_elim h
                  refine J.sub ?_ (((((Sub.base _).upd e0).upd e3).upd e9).upd e10)
                  clear e0 e3 e9 e10
                  exact sh_sound _ _ _ _ (Eq.mp (by kernel_rfl) h)
      · intro σ w h
        obtain ⟨x3A, x3n, x3c, e3, h⟩ := vS_elim h
        refine J.sub ?_ ((Sub.base _).upd e3)
        clear e3
        exact sh_sound _ _ _ _ (Eq.mp (by kernel_rfl) h)

/-! ### hayloft/hayloftref01.Ints: function 21 -/
abbrev ref01_Ints.p3 (K : Value → World → Prop) (w : World) : Prop :=
  K (.bool true) w
abbrev ref01_Ints.b0 (L0 : Option Addr → Nat → Nat → Option Addr → Nat → Nat → Int → Int → World → Prop) (K : Value → World → Prop) (x0A : Option Addr) (x0n : Nat) (x0c : Nat) (x1A : Option Addr) (x1n : Nat) (x1c : Nat) (x12 : Int) (x13 : Int) (w : World) : Prop :=
  condP (decide (x13 < x12)) ((0 ≤ x13 ∧ x13 < ((x0n : Nat) : Int)) ∧ ∃ (a1 : Addr), x0A = some a1 ∧ ∃ (n2 : Int), w.cell? (a1.add x13.toNat) = some (.int .i64 n2) ∧ (0 ≤ x13 ∧ x13 < ((x1n : Nat) : Int)) ∧ ∃ (a3 : Addr), x1A = some a3 ∧ ∃ (n4 : Int), w.cell? (a3.add x13.toNat) = some (.int .i64 n4) ∧ condP (n2 != n4) (K (.bool false) w) (L0 x0A x0n x0c x1A x1n x1c x12 (IntKind.wrap .i64 (x13 + (1 : Int))) w)) (ref01_Ints.p3 K w)
def ref01_Ints.l0 (K : Value → World → Prop) (k : Nat) : Option Addr → Nat → Nat → Option Addr → Nat → Nat → Int → Int → World → Prop :=
  Nat.rec (motive := fun _ => Option Addr → Nat → Nat → Option Addr → Nat → Nat → Int → Int → World → Prop) (fun _ _ _ _ _ _ _ _ _ => False) (fun _ ih => ref01_Ints.b0 ih K) k
theorem ref01_Ints.l0_succ (K : Value → World → Prop) (k : Nat) (x0A : Option Addr) (x0n : Nat) (x0c : Nat) (x1A : Option Addr) (x1n : Nat) (x1c : Nat) (x12 : Int) (x13 : Int) (w : World) : ref01_Ints.l0 K (k + 1) x0A x0n x0c x1A x1n x1c x12 x13 w = ref01_Ints.b0 (ref01_Ints.l0 K k) K x0A x0n x0c x1A x1n x1c x12 x13 w := rfl
abbrev ref01_Ints.p2 (K : Value → World → Prop) (x0A : Option Addr) (x0n : Nat) (x0c : Nat) (x1A : Option Addr) (x1n : Nat) (x1c : Nat) (x12 : Int) (x13 : Int) (w : World) : Prop :=
  ∃ k, ref01_Ints.l0 K k x0A x0n x0c x1A x1n x1c x12 x13 w
abbrev ref01_Ints.p1 (K : Value → World → Prop) (x0A : Option Addr) (x0n : Nat) (x0c : Nat) (x1A : Option Addr) (x1n : Nat) (x1c : Nat) (w : World) : Prop :=
  ref01_Ints.p2 K x0A x0n x0c x1A x1n x1c ((x0n : Nat) : Int) 0 w
abbrev ref01_Ints.p0 (K : Value → World → Prop) (x0A : Option Addr) (x0n : Nat) (x0c : Nat) (x1A : Option Addr) (x1n : Nat) (x1c : Nat) (w : World) : Prop :=
  condP (((x0n : Nat) : Int) != ((x1n : Nat) : Int)) (K (.bool false) w) (ref01_Ints.p1 K x0A x0n x0c x1A x1n x1c w)
abbrev ref01_Ints.F (q0A : Option Addr) (q0n : Nat) (q0c : Nat) (q1A : Option Addr) (q1n : Nat) (q1c : Nat) (K : Value → World → Prop) (w : World) : Prop :=
  ref01_Ints.p0 K q0A q0n q0c q1A q1n q1c w
theorem ref01_Ints.ok {q0A : Option Addr} {q0n : Nat} {q0c : Nat} {q1A : Option Addr} {q1n : Nat} {q1c : Nat} {K : Value → World → Prop} {w : World} (h : ref01_Ints.F q0A q0n q0c q1A q1n q1c K w) :
    CallsE Tryd.prog 21 #[.slice q0A q0n q0c, .slice q1A q1n q1c] w K := by
  refine calls_of_J (n := 26) (rs := [.tmp 4]) Tryd.func21 rfl rfl rfl rfl ?_
  refine J_seq (fun σ w => vS (σ 0) fun x0A x0n x0c => vS (σ 1) fun x1A x1n x1c => ref01_Ints.p0 K x0A x0n x0c x1A x1n x1c w) ?_ ?_
  ·
    exact sh_sound _ _ _ _ (Eq.mp (by kernel_rfl) h)
  · intro σ w h
    obtain ⟨x0A, x0n, x0c, e0, h⟩ := vS_elim h
    obtain ⟨x1A, x1n, x1c, e1, h⟩ := vS_elim h
    refine J.sub ?_ (((Sub.base _).upd e0).upd e1)
    clear e0 e1
    refine J_seq (fun σ w => vS (σ 0) fun x0A x0n x0c => vS (σ 1) fun x1A x1n x1c => ref01_Ints.p1 K x0A x0n x0c x1A x1n x1c w) ?_ ?_
    ·
      exact sh_sound _ _ _ _ (Eq.mp (by kernel_rfl) h)
    · intro σ w h
      obtain ⟨x0A, x0n, x0c, e0, h⟩ := vS_elim h
      obtain ⟨x1A, x1n, x1c, e1, h⟩ := vS_elim h
      refine J.sub ?_ (((Sub.base _).upd e0).upd e1)
      clear e0 e1
      refine J_seq (fun σ w => ref01_Ints.p3 K w) ?_ ?_
      ·
        refine J_seq (fun σ w => vS (σ 0) fun x0A x0n x0c => vS (σ 1) fun x1A x1n x1c => vI .i64 (σ 12) fun x12 => vI .i64 (σ 13) fun x13 => ref01_Ints.p2 K x0A x0n x0c x1A x1n x1c x12 x13 w) ?_ ?_
        ·
          exact sh_sound _ _ _ _ (Eq.mp (by kernel_rfl) h)
        · intro σ w h
          obtain ⟨x0A, x0n, x0c, e0, h⟩ := vS_elim h
          obtain ⟨x1A, x1n, x1c, e1, h⟩ := vS_elim h
          obtain ⟨x12, e12, h⟩ := vI_elim h
          obtain ⟨x13, e13, h⟩ := vI_elim h
          refine J.sub ?_ (((((Sub.base _).upd e0).upd e1).upd e12).upd e13)
          clear e0 e1 e12 e13
          refine J_block ?_
          refine J_loop (fun k σ w => vS (σ 0) fun x0A x0n x0c => vS (σ 1) fun x1A x1n x1c => vI .i64 (σ 12) fun x12 => vI .i64 (σ 13) fun x13 => ref01_Ints.l0 K k x0A x0n x0c x1A x1n x1c x12 x13 w) (Eq.mp (by kernel_rfl) h) ?_ ?_
          · intro σ w h
            obtain ⟨x0A, x0n, x0c, e0, h⟩ := vS_elim h
            obtain ⟨x1A, x1n, x1c, e1, h⟩ := vS_elim h
            obtain ⟨x12, e12, h⟩ := vI_elim h
            obtain ⟨x13, e13, h⟩ := vI_elim h
            exact h
          · intro k0 σ w h
            obtain ⟨x0A, x0n, x0c, e0, h⟩ := vS_elim h
            obtain ⟨x1A, x1n, x1c, e1, h⟩ := vS_elim h
            obtain ⟨x12, e12, h⟩ := vI_elim h
            obtain ⟨x13, e13, h⟩ := vI_elim h
            refine J.sub ?_ (((((Sub.base _).upd e0).upd e1).upd e12).upd e13)
            clear e0 e1 e12 e13
            exact sh_sound _ _ _ _ (Eq.mp (by kernel_rfl) h)
      · intro σ w h
        refine J.sub ?_ (Sub.base _)
        exact sh_sound _ _ _ _ (Eq.mp (by kernel_rfl) h)

/-! ### hayloft/hayloftref01.Same: function 22 -/
abbrev ref01_Same.F (q0A : Option Addr) (q0n : Nat) (q0c : Nat) (q1A : Option Addr) (q1n : Nat) (q1c : Nat) (K : Value → World → Prop) (w : World) : Prop :=
  ∃ (bs1 : List UInt8), bytesAt w q0A q0n bs1 ∧ ∃ (bs2 : List UInt8), bytesAt w q1A q1n bs2 ∧ K (.bool ((⟨bs1.toArray⟩ : ByteArray).toList == (⟨bs2.toArray⟩ : ByteArray).toList)) w
theorem ref01_Same.ok {q0A : Option Addr} {q0n : Nat} {q0c : Nat} {q1A : Option Addr} {q1n : Nat} {q1c : Nat} {K : Value → World → Prop} {w : World} (h : ref01_Same.F q0A q0n q0c q1A q1n q1c K w) :
    CallsE Tryd.prog 22 #[.slice q0A q0n q0c, .slice q1A q1n q1c] w K := by
  refine calls_of_J (n := 10) (rs := [.tmp 4]) Tryd.func22 rfl rfl rfl rfl ?_
  exact sh_sound _ _ _ _ (Eq.mp (by kernel_rfl) h)

/-! ### (*hayloft/set.Set).Bytes: function 23 -/
abbrev set_Set_Bytes.p3 (K : Value → World → Prop) (x3A : Option Addr) (x3n : Nat) (x3c : Nat) (w : World) : Prop :=
  K (.slice x3A x3n x3c) w
abbrev set_Set_Bytes.b0 (L0 : Option Addr → Option Addr → Nat → Nat → Int → Int → World → Prop) (K : Value → World → Prop) (x0 : Option Addr) (x3A : Option Addr) (x3n : Nat) (x3c : Nat) (x11 : Int) (x12 : Int) (w : World) : Prop :=
  condP (decide (x12 < x11)) (∃ (a5 : Addr), x0 = some a5 ∧ ∃ (A6 : Option Addr) (m7 : Nat) (c8 : Nat), w.cell? (a5.add 1) = some (.slice A6 m7 c8) ∧ (8 : Int) ≠ 0 ∧ (0 ≤ (IntKind.wrap .i64 (Int.tdiv x12 8)) ∧ (IntKind.wrap .i64 (Int.tdiv x12 8)) < ((m7 : Nat) : Int)) ∧ ∃ (a9 : Addr), A6 = some a9 ∧ ∃ (n10 : Int), w.cell? (a9.add ((IntKind.wrap .i64 (Int.tdiv x12 8)).toNat)) = some (.int .u64 n10) ∧ (8 : Int) ≠ 0 ∧ 0 ≤ (IntKind.wrap .i64 ((8 : Int) * (Int.tmod x12 8))) ∧ (0 ≤ x12 ∧ x12 < ((x3n : Nat) : Int)) ∧ ∃ (a11 : Addr), x3A = some a11 ∧ canStore w (a11.add x12.toNat) ∧ wlet (w.setCell (a11.add x12.toNat) (.int .u8 (IntKind.wrap .u8 (ishr .u64 n10 (IntKind.wrap .i64 ((8 : Int) * (Int.tmod x12 8))))))) fun w12 => L0 x0 x3A x3n x3c x11 (IntKind.wrap .i64 (x12 + (1 : Int))) w12) (set_Set_Bytes.p3 K x3A x3n x3c w)
def set_Set_Bytes.l0 (K : Value → World → Prop) (k : Nat) : Option Addr → Option Addr → Nat → Nat → Int → Int → World → Prop :=
  Nat.rec (motive := fun _ => Option Addr → Option Addr → Nat → Nat → Int → Int → World → Prop) (fun _ _ _ _ _ _ _ => False) (fun _ ih => set_Set_Bytes.b0 ih K) k
theorem set_Set_Bytes.l0_succ (K : Value → World → Prop) (k : Nat) (x0 : Option Addr) (x3A : Option Addr) (x3n : Nat) (x3c : Nat) (x11 : Int) (x12 : Int) (w : World) : set_Set_Bytes.l0 K (k + 1) x0 x3A x3n x3c x11 x12 w = set_Set_Bytes.b0 (set_Set_Bytes.l0 K k) K x0 x3A x3n x3c x11 x12 w := rfl
abbrev set_Set_Bytes.p2 (K : Value → World → Prop) (x0 : Option Addr) (x3A : Option Addr) (x3n : Nat) (x3c : Nat) (x11 : Int) (x12 : Int) (w : World) : Prop :=
  ∃ k, set_Set_Bytes.l0 K k x0 x3A x3n x3c x11 x12 w
abbrev set_Set_Bytes.p1 (K : Value → World → Prop) (x0 : Option Addr) (x3A : Option Addr) (x3n : Nat) (x3c : Nat) (w : World) : Prop :=
  set_Set_Bytes.p2 K x0 x3A x3n x3c ((x3n : Nat) : Int) 0 w
abbrev set_Set_Bytes.p0 (K : Value → World → Prop) (x0 : Option Addr) (w : World) : Prop :=
  CallsE Tryd.prog 12 #[.pointer x0] w (fun v1 w2 => ∃ (n3 : Int), v1 = .int .i64 n3 ∧ (8 : Int) ≠ 0 ∧ (0 ≤ (IntKind.wrap .i64 (Int.tdiv (IntKind.wrap .i64 (n3 + (7 : Int))) 8)) ∧ (IntKind.wrap .i64 (Int.tdiv (IntKind.wrap .i64 (n3 + (7 : Int))) 8)) ≤ (IntKind.wrap .i64 (Int.tdiv (IntKind.wrap .i64 (n3 + (7 : Int))) 8)) ∧ (1 : Int) * (IntKind.wrap .i64 (Int.tdiv (IntKind.wrap .i64 (n3 + (7 : Int))) 8)) ≤ 281474976710656 ∧ (IntKind.wrap .i64 (Int.tdiv (IntKind.wrap .i64 (n3 + (7 : Int))) 8)) ≤ 9223372036854775807) ∧ wlet (w2.alloc (.cells (madeCells #[.int .u8 0] ((IntKind.wrap .i64 (Int.tdiv (IntKind.wrap .i64 (n3 + (7 : Int))) 8)).toNat * 1)) 5)) fun w4 => set_Set_Bytes.p1 K x0 (some ⟨w2.heap.size, 0, none⟩) ((IntKind.wrap .i64 (Int.tdiv (IntKind.wrap .i64 (n3 + (7 : Int))) 8)).toNat) ((IntKind.wrap .i64 (Int.tdiv (IntKind.wrap .i64 (n3 + (7 : Int))) 8)).toNat) w4)
abbrev set_Set_Bytes.F (q0 : Option Addr) (K : Value → World → Prop) (w : World) : Prop :=
  set_Set_Bytes.p0 K q0 w
theorem set_Set_Bytes.ok {q0 : Option Addr} {K : Value → World → Prop} {w : World} (h : set_Set_Bytes.F q0 K w) :
    CallsE Tryd.prog 23 #[.pointer q0] w K := by
  refine calls_of_J (n := 33) (rs := [.tmp 2]) Tryd.func23 rfl rfl rfl rfl ?_
  refine J_seq (fun σ w => vP (σ 0) fun x0 => set_Set_Bytes.p0 K x0 w) ?_ ?_
  ·
    exact sh_sound _ _ _ _ (Eq.mp (by kernel_rfl) h)
  · intro σ w h
    obtain ⟨x0, e0, h⟩ := vP_elim h
    refine J.sub ?_ ((Sub.base _).upd e0)
    clear e0
    refine J_seq (fun σ w => vP (σ 0) fun x0 => vS (σ 3) fun x3A x3n x3c => set_Set_Bytes.p1 K x0 x3A x3n x3c w) ?_ ?_
    ·
      exact sh_sound _ _ _ _ (Eq.mp (by kernel_rfl) h)
    · intro σ w h
      obtain ⟨x0, e0, h⟩ := vP_elim h
      obtain ⟨x3A, x3n, x3c, e3, h⟩ := vS_elim h
      refine J.sub ?_ (((Sub.base _).upd e0).upd e3)
      clear e0 e3
      refine J_seq (fun σ w => vS (σ 3) fun x3A x3n x3c => set_Set_Bytes.p3 K x3A x3n x3c w) ?_ ?_
      ·
        refine J_seq (fun σ w => vP (σ 0) fun x0 => vS (σ 3) fun x3A x3n x3c => vI .i64 (σ 11) fun x11 => vI .i64 (σ 12) fun x12 => set_Set_Bytes.p2 K x0 x3A x3n x3c x11 x12 w) ?_ ?_
        ·
          exact sh_sound _ _ _ _ (Eq.mp (by kernel_rfl) h)
        · intro σ w h
          obtain ⟨x0, e0, h⟩ := vP_elim h
          obtain ⟨x3A, x3n, x3c, e3, h⟩ := vS_elim h
          obtain ⟨x11, e11, h⟩ := vI_elim h
          obtain ⟨x12, e12, h⟩ := vI_elim h
          refine J.sub ?_ (((((Sub.base _).upd e0).upd e3).upd e11).upd e12)
          clear e0 e3 e11 e12
          refine J_block ?_
          refine J_loop (fun k σ w => vP (σ 0) fun x0 => vS (σ 3) fun x3A x3n x3c => vI .i64 (σ 11) fun x11 => vI .i64 (σ 12) fun x12 => set_Set_Bytes.l0 K k x0 x3A x3n x3c x11 x12 w) (Eq.mp (by kernel_rfl) h) ?_ ?_
          · intro σ w h
            obtain ⟨x0, e0, h⟩ := vP_elim h
            obtain ⟨x3A, x3n, x3c, e3, h⟩ := vS_elim h
            obtain ⟨x11, e11, h⟩ := vI_elim h
            obtain ⟨x12, e12, h⟩ := vI_elim h
            exact h
          · intro k0 σ w h
            obtain ⟨x0, e0, h⟩ := vP_elim h
            obtain ⟨x3A, x3n, x3c, e3, h⟩ := vS_elim h
            obtain ⟨x11, e11, h⟩ := vI_elim h
            obtain ⟨x12, e12, h⟩ := vI_elim h
            refine J.sub ?_ (((((Sub.base _).upd e0).upd e3).upd e11).upd e12)
            clear e0 e3 e11 e12
            exact sh_sound _ _ _ _ (Eq.mp (by kernel_rfl) h)
      · intro σ w h
        obtain ⟨x3A, x3n, x3c, e3, h⟩ := vS_elim h
        refine J.sub ?_ ((Sub.base _).upd e3)
        clear e3
        exact sh_sound _ _ _ _ (Eq.mp (by kernel_rfl) h)

/-! ### (*hayloft/hayloftref03.Set).Bytes: function 24 -/
abbrev ref03_Set_Bytes.p9 (L1 : Option Addr → Option Addr → Nat → Nat → Int → Int → Int → Int → World → Prop) (L0 : Option Addr → Option Addr → Nat → Nat → Int → World → Prop) (K : Value → World → Prop) (x0 : Option Addr) (x3A : Option Addr) (x3n : Nat) (x3c : Nat) (x4 : Int) (x5 : Int) (x6 : Int) (x7 : Int) (w : World) : Prop :=
  L1 x0 x3A x3n x3c x4 x5 x6 (IntKind.wrap .i64 (x7 + (1 : Int))) w
abbrev ref03_Set_Bytes.p8 (L1 : Option Addr → Option Addr → Nat → Nat → Int → Int → Int → Int → World → Prop) (L0 : Option Addr → Option Addr → Nat → Nat → Int → World → Prop) (K : Value → World → Prop) (x0 : Option Addr) (x3A : Option Addr) (x3n : Nat) (x3c : Nat) (x4 : Int) (x5 : Int) (x6 : Int) (x7 : Int) (w : World) : Prop :=
  ref03_Set_Bytes.p9 L1 L0 K x0 x3A x3n x3c x4 x5 (IntKind.wrap .i64 (x6 * (2 : Int))) x7 w
abbrev ref03_Set_Bytes.p7 (L1 : Option Addr → Option Addr → Nat → Nat → Int → Int → Int → Int → World → Prop) (L0 : Option Addr → Option Addr → Nat → Nat → Int → World → Prop) (K : Value → World → Prop) (x0 : Option Addr) (x3A : Option Addr) (x3n : Nat) (x3c : Nat) (x4 : Int) (x5 : Int) (x6 : Int) (x7 : Int) (w : World) : Prop :=
  ∃ (a9 : Addr), x0 = some a9 ∧ ∃ (A10 : Option Addr) (m11 : Nat) (c12 : Nat), w.cell? a9 = some (.slice A10 m11 c12) ∧ (0 ≤ x7 ∧ x7 < ((m11 : Nat) : Int)) ∧ ∃ (a13 : Addr), A10 = some a13 ∧ ∃ (b14 : Bool), w.cell? (a13.add x7.toNat) = some (.bool b14) ∧ condP b14 (ref03_Set_Bytes.p8 L1 L0 K x0 x3A x3n x3c x4 (IntKind.wrap .i64 (x5 + x6)) x6 x7 w) (ref03_Set_Bytes.p8 L1 L0 K x0 x3A x3n x3c x4 x5 x6 x7 w)
abbrev ref03_Set_Bytes.p11 (L0 : Option Addr → Option Addr → Nat → Nat → Int → World → Prop) (K : Value → World → Prop) (x0 : Option Addr) (x3A : Option Addr) (x3n : Nat) (x3c : Nat) (x4 : Int) (w : World) : Prop :=
  L0 x0 x3A x3n x3c (IntKind.wrap .i64 (x4 + (8 : Int))) w
abbrev ref03_Set_Bytes.p10 (L0 : Option Addr → Option Addr → Nat → Nat → Int → World → Prop) (K : Value → World → Prop) (x0 : Option Addr) (x3A : Option Addr) (x3n : Nat) (x3c : Nat) (x4 : Int) (x5 : Int) (w : World) : Prop :=
  wlet (w.alloc (.cells #[.int .u8 (IntKind.wrap .u8 x5)] 5)) fun w15 => SemJ Tryd.prog (Builtin.append_ #[42, 42] 42 #[.slice x3A x3n x3c, .slice (some ⟨w.heap.size, 0, none⟩) 1 1]) (fun v16 w17 => ∃ (A18 : Option Addr) (m19 : Nat) (c20 : Nat), v16 = .slice A18 m19 c20 ∧ ref03_Set_Bytes.p11 L0 K x0 A18 m19 c20 x4 w17) w15
abbrev ref03_Set_Bytes.p6 (L1 : Option Addr → Option Addr → Nat → Nat → Int → Int → Int → Int → World → Prop) (L0 : Option Addr → Option Addr → Nat → Nat → Int → World → Prop) (K : Value → World → Prop) (x0 : Option Addr) (x3A : Option Addr) (x3n : Nat) (x3c : Nat) (x4 : Int) (x5 : Int) (x6 : Int) (x7 : Int) (x30 : Bool) (w : World) : Prop :=
  condP x30 (ref03_Set_Bytes.p7 L1 L0 K x0 x3A x3n x3c x4 x5 x6 x7 w) (ref03_Set_Bytes.p10 L0 K x0 x3A x3n x3c x4 x5 w)
abbrev ref03_Set_Bytes.b1 (L1 : Option Addr → Option Addr → Nat → Nat → Int → Int → Int → Int → World → Prop) (L0 : Option Addr → Option Addr → Nat → Nat → Int → World → Prop) (K : Value → World → Prop) (x0 : Option Addr) (x3A : Option Addr) (x3n : Nat) (x3c : Nat) (x4 : Int) (x5 : Int) (x6 : Int) (x7 : Int) (w : World) : Prop :=
  condP (decide (x7 < (IntKind.wrap .i64 (x4 + (8 : Int))))) (∃ (a5 : Addr), x0 = some a5 ∧ ∃ (A6 : Option Addr) (m7 : Nat) (c8 : Nat), w.cell? a5 = some (.slice A6 m7 c8) ∧ ref03_Set_Bytes.p6 L1 L0 K x0 x3A x3n x3c x4 x5 x6 x7 (decide (x7 < ((m7 : Nat) : Int))) w) (ref03_Set_Bytes.p6 L1 L0 K x0 x3A x3n x3c x4 x5 x6 x7 false w)
def ref03_Set_Bytes.l1 (L0 : Option Addr → Option Addr → Nat → Nat → Int → World → Prop) (K : Value → World → Prop) (k : Nat) : Option Addr → Option Addr → Nat → Nat → Int → Int → Int → Int → World → Prop :=
  Nat.rec (motive := fun _ => Option Addr → Option Addr → Nat → Nat → Int → Int → Int → Int → World → Prop) (fun _ _ _ _ _ _ _ _ _ => False) (fun _ ih => ref03_Set_Bytes.b1 ih L0 K) k
theorem ref03_Set_Bytes.l1_succ (L0 : Option Addr → Option Addr → Nat → Nat → Int → World → Prop) (K : Value → World → Prop) (k : Nat) (x0 : Option Addr) (x3A : Option Addr) (x3n : Nat) (x3c : Nat) (x4 : Int) (x5 : Int) (x6 : Int) (x7 : Int) (w : World) : ref03_Set_Bytes.l1 L0 K (k + 1) x0 x3A x3n x3c x4 x5 x6 x7 w = ref03_Set_Bytes.b1 (ref03_Set_Bytes.l1 L0 K k) L0 K x0 x3A x3n x3c x4 x5 x6 x7 w := rfl
abbrev ref03_Set_Bytes.p5 (L0 : Option Addr → Option Addr → Nat → Nat → Int → World → Prop) (K : Value → World → Prop) (x0 : Option Addr) (x3A : Option Addr) (x3n : Nat) (x3c : Nat) (x4 : Int) (x5 : Int) (x6 : Int) (x7 : Int) (w : World) : Prop :=
  ∃ k, ref03_Set_Bytes.l1 L0 K k x0 x3A x3n x3c x4 x5 x6 x7 w
abbrev ref03_Set_Bytes.p4 (L0 : Option Addr → Option Addr → Nat → Nat → Int → World → Prop) (K : Value → World → Prop) (x0 : Option Addr) (x3A : Option Addr) (x3n : Nat) (x3c : Nat) (x4 : Int) (x5 : Int) (x6 : Int) (w : World) : Prop :=
  ref03_Set_Bytes.p5 L0 K x0 x3A x3n x3c x4 x5 x6 x4 w
abbrev ref03_Set_Bytes.p3 (L0 : Option Addr → Option Addr → Nat → Nat → Int → World → Prop) (K : Value → World → Prop) (x0 : Option Addr) (x3A : Option Addr) (x3n : Nat) (x3c : Nat) (x4 : Int) (w : World) : Prop :=
  ref03_Set_Bytes.p4 L0 K x0 x3A x3n x3c x4 0 1 w
abbrev ref03_Set_Bytes.p12 (K : Value → World → Prop) (x3A : Option Addr) (x3n : Nat) (x3c : Nat) (w : World) : Prop :=
  K (.slice x3A x3n x3c) w
abbrev ref03_Set_Bytes.b0 (L0 : Option Addr → Option Addr → Nat → Nat → Int → World → Prop) (K : Value → World → Prop) (x0 : Option Addr) (x3A : Option Addr) (x3n : Nat) (x3c : Nat) (x4 : Int) (w : World) : Prop :=
  ∃ (a1 : Addr), x0 = some a1 ∧ ∃ (A2 : Option Addr) (m3 : Nat) (c4 : Nat), w.cell? a1 = some (.slice A2 m3 c4) ∧ condP (decide (x4 < ((m3 : Nat) : Int))) (ref03_Set_Bytes.p3 L0 K x0 x3A x3n x3c x4 w) (ref03_Set_Bytes.p12 K x3A x3n x3c w)
def ref03_Set_Bytes.l0 (K : Value → World → Prop) (k : Nat) : Option Addr → Option Addr → Nat → Nat → Int → World → Prop :=
  Nat.rec (motive := fun _ => Option Addr → Option Addr → Nat → Nat → Int → World → Prop) (fun _ _ _ _ _ _ => False) (fun _ ih => ref03_Set_Bytes.b0 ih K) k
theorem ref03_Set_Bytes.l0_succ (K : Value → World → Prop) (k : Nat) (x0 : Option Addr) (x3A : Option Addr) (x3n : Nat) (x3c : Nat) (x4 : Int) (w : World) : ref03_Set_Bytes.l0 K (k + 1) x0 x3A x3n x3c x4 w = ref03_Set_Bytes.b0 (ref03_Set_Bytes.l0 K k) K x0 x3A x3n x3c x4 w := rfl
abbrev ref03_Set_Bytes.p2 (K : Value → World → Prop) (x0 : Option Addr) (x3A : Option Addr) (x3n : Nat) (x3c : Nat) (x4 : Int) (w : World) : Prop :=
  ∃ k, ref03_Set_Bytes.l0 K k x0 x3A x3n x3c x4 w
abbrev ref03_Set_Bytes.p1 (K : Value → World → Prop) (x0 : Option Addr) (x3A : Option Addr) (x3n : Nat) (x3c : Nat) (w : World) : Prop :=
  ref03_Set_Bytes.p2 K x0 x3A x3n x3c 0 w
abbrev ref03_Set_Bytes.p0 (K : Value → World → Prop) (x0 : Option Addr) (w : World) : Prop :=
  ref03_Set_Bytes.p1 K x0 none 0 0 w
abbrev ref03_Set_Bytes.F (q0 : Option Addr) (K : Value → World → Prop) (w : World) : Prop :=
  ref03_Set_Bytes.p0 K q0 w
theorem ref03_Set_Bytes.ok {q0 : Option Addr} {K : Value → World → Prop} {w : World} (h : ref03_Set_Bytes.F q0 K w) :
    CallsE Tryd.prog 24 #[.pointer q0] w K := by
  refine calls_of_J (n := 51) (rs := [.tmp 2]) Tryd.func24 rfl rfl rfl rfl ?_
  refine J_seq (fun σ w => vP (σ 0) fun x0 => ref03_Set_Bytes.p0 K x0 w) ?_ ?_
  ·
    exact sh_sound _ _ _ _ (Eq.mp (by kernel_rfl) h)
  · intro σ w h
    obtain ⟨x0, e0, h⟩ := vP_elim h
    refine J.sub ?_ ((Sub.base _).upd e0)
    clear e0
    refine J_seq (fun σ w => vP (σ 0) fun x0 => vS (σ 3) fun x3A x3n x3c => ref03_Set_Bytes.p1 K x0 x3A x3n x3c w) ?_ ?_
    ·
      exact sh_sound _ _ _ _ (Eq.mp (by kernel_rfl) h)
    · intro σ w h
      obtain ⟨x0, e0, h⟩ := vP_elim h
      obtain ⟨x3A, x3n, x3c, e3, h⟩ := vS_elim h
      refine J.sub ?_ (((Sub.base _).upd e0).upd e3)
      clear e0 e3
      refine J_seq (fun σ w => vS (σ 3) fun x3A x3n x3c => ref03_Set_Bytes.p12 K x3A x3n x3c w) ?_ ?_
      ·
        refine J_seq (fun σ w => vP (σ 0) fun x0 => vS (σ 3) fun x3A x3n x3c => vI .i64 (σ 4) fun x4 => ref03_Set_Bytes.p2 K x0 x3A x3n x3c x4 w) ?_ ?_
        ·
          exact sh_sound _ _ _ _ (Eq.mp (by kernel_rfl) h)
        · intro σ w h
          obtain ⟨x0, e0, h⟩ := vP_elim h
          obtain ⟨x3A, x3n, x3c, e3, h⟩ := vS_elim h
          obtain ⟨x4, e4, h⟩ := vI_elim h
          refine J.sub ?_ ((((Sub.base _).upd e0).upd e3).upd e4)
          clear e0 e3 e4
          refine J_block ?_
          refine J_loop (fun k σ w => vP (σ 0) fun x0 => vS (σ 3) fun x3A x3n x3c => vI .i64 (σ 4) fun x4 => ref03_Set_Bytes.l0 K k x0 x3A x3n x3c x4 w) (Eq.mp (by kernel_rfl) h) ?_ ?_
          · intro σ w h
            obtain ⟨x0, e0, h⟩ := vP_elim h
            obtain ⟨x3A, x3n, x3c, e3, h⟩ := vS_elim h
            obtain ⟨x4, e4, h⟩ := vI_elim h
            exact h
          · intro k0 σ w h
            obtain ⟨x0, e0, h⟩ := vP_elim h
            obtain ⟨x3A, x3n, x3c, e3, h⟩ := vS_elim h
            obtain ⟨x4, e4, h⟩ := vI_elim h
            refine J.sub ?_ ((((Sub.base _).upd e0).upd e3).upd e4)
            clear e0 e3 e4
            refine J_seq (fun σ w => vP (σ 0) fun x0 => vS (σ 3) fun x3A x3n x3c => vI .i64 (σ 4) fun x4 => ref03_Set_Bytes.p3 (ref03_Set_Bytes.l0 K k0) K x0 x3A x3n x3c x4 w) ?_ ?_
            ·
              exact sh_sound _ _ _ _ (Eq.mp (by kernel_rfl) h)
            · intro σ w h
              obtain ⟨x0, e0, h⟩ := vP_elim h
              obtain ⟨x3A, x3n, x3c, e3, h⟩ := vS_elim h
              obtain ⟨x4, e4, h⟩ := vI_elim h
              refine J.sub ?_ ((((Sub.base _).upd e0).upd e3).upd e4)
              clear e0 e3 e4
              refine J_seq (fun σ w => vP (σ 0) fun x0 => vS (σ 3) fun x3A x3n x3c => vI .i64 (σ 4) fun x4 => ref03_Set_Bytes.p11 (ref03_Set_Bytes.l0 K k0) K x0 x3A x3n x3c x4 w) ?_ ?_
              ·
                refine J_block ?_
                refine J_seq (fun σ w => vP (σ 0) fun x0 => vS (σ 3) fun x3A x3n x3c => vI .i64 (σ 4) fun x4 => vI .i64 (σ 5) fun x5 => vI .i64 (σ 6) fun x6 => ref03_Set_Bytes.p4 (ref03_Set_Bytes.l0 K k0) K x0 x3A x3n x3c x4 x5 x6 w) ?_ ?_
                ·
                  exact sh_sound _ _ _ _ (Eq.mp (by kernel_rfl) h)
                · intro σ w h
                  obtain ⟨x0, e0, h⟩ := vP_elim h
                  obtain ⟨x3A, x3n, x3c, e3, h⟩ := vS_elim h
                  obtain ⟨x4, e4, h⟩ := vI_elim h
                  obtain ⟨x5, e5, h⟩ := vI_elim h
                  obtain ⟨x6, e6, h⟩ := vI_elim h
                  refine J.sub ?_ ((((((Sub.base _).upd e0).upd e3).upd e4).upd e5).upd e6)
                  clear e0 e3 e4 e5 e6
                  refine J_seq (fun σ w => vP (σ 0) fun x0 => vS (σ 3) fun x3A x3n x3c => vI .i64 (σ 4) fun x4 => vI .i64 (σ 5) fun x5 => ref03_Set_Bytes.p10 (ref03_Set_Bytes.l0 K k0) K x0 x3A x3n x3c x4 x5 w) ?_ ?_
                  ·
                    refine J_seq (fun σ w => vP (σ 0) fun x0 => vS (σ 3) fun x3A x3n x3c => vI .i64 (σ 4) fun x4 => vI .i64 (σ 5) fun x5 => vI .i64 (σ 6) fun x6 => vI .i64 (σ 7) fun x7 => ref03_Set_Bytes.p5 (ref03_Set_Bytes.l0 K k0) K x0 x3A x3n x3c x4 x5 x6 x7 w) ?_ ?_
                    ·
                      exact sh_sound _ _ _ _ (Eq.mp (by kernel_rfl) h)
                    · intro σ w h
                      obtain ⟨x0, e0, h⟩ := vP_elim h
                      obtain ⟨x3A, x3n, x3c, e3, h⟩ := vS_elim h
                      obtain ⟨x4, e4, h⟩ := vI_elim h
                      obtain ⟨x5, e5, h⟩ := vI_elim h
                      obtain ⟨x6, e6, h⟩ := vI_elim h
                      obtain ⟨x7, e7, h⟩ := vI_elim h
                      refine J.sub ?_ (((((((Sub.base _).upd e0).upd e3).upd e4).upd e5).upd e6).upd e7)
                      clear e0 e3 e4 e5 e6 e7
                      refine J_block ?_
                      refine J_loop (fun k σ w => vP (σ 0) fun x0 => vS (σ 3) fun x3A x3n x3c => vI .i64 (σ 4) fun x4 => vI .i64 (σ 5) fun x5 => vI .i64 (σ 6) fun x6 => vI .i64 (σ 7) fun x7 => ref03_Set_Bytes.l1 (ref03_Set_Bytes.l0 K k0) K k x0 x3A x3n x3c x4 x5 x6 x7 w) (Eq.mp (by kernel_rfl) h) ?_ ?_
                      · intro σ w h
                        obtain ⟨x0, e0, h⟩ := vP_elim h
                        obtain ⟨x3A, x3n, x3c, e3, h⟩ := vS_elim h
                        obtain ⟨x4, e4, h⟩ := vI_elim h
                        obtain ⟨x5, e5, h⟩ := vI_elim h
                        obtain ⟨x6, e6, h⟩ := vI_elim h
                        obtain ⟨x7, e7, h⟩ := vI_elim h
                        exact h
                      · intro k1 σ w h
                        obtain ⟨x0, e0, h⟩ := vP_elim h
                        obtain ⟨x3A, x3n, x3c, e3, h⟩ := vS_elim h
                        obtain ⟨x4, e4, h⟩ := vI_elim h
                        obtain ⟨x5, e5, h⟩ := vI_elim h
                        obtain ⟨x6, e6, h⟩ := vI_elim h
                        obtain ⟨x7, e7, h⟩ := vI_elim h
                        refine J.sub ?_ (((((((Sub.base _).upd e0).upd e3).upd e4).upd e5).upd e6).upd e7)
                        clear e0 e3 e4 e5 e6 e7
                        refine J_seq (fun σ w => vP (σ 0) fun x0 => vS (σ 3) fun x3A x3n x3c => vI .i64 (σ 4) fun x4 => vI .i64 (σ 5) fun x5 => vI .i64 (σ 6) fun x6 => vI .i64 (σ 7) fun x7 => ref03_Set_Bytes.p7 (ref03_Set_Bytes.l1 (ref03_Set_Bytes.l0 K k0) K k1) (ref03_Set_Bytes.l0 K k0) K x0 x3A x3n x3c x4 x5 x6 x7 w) ?_ ?_
                        ·
                          refine J_seq (fun σ w => vP (σ 0) fun x0 => vS (σ 3) fun x3A x3n x3c => vI .i64 (σ 4) fun x4 => vI .i64 (σ 5) fun x5 => vI .i64 (σ 6) fun x6 => vI .i64 (σ 7) fun x7 => vB (σ 30) fun x30 => ref03_Set_Bytes.p6 (ref03_Set_Bytes.l1 (ref03_Set_Bytes.l0 K k0) K k1) (ref03_Set_Bytes.l0 K k0) K x0 x3A x3n x3c x4 x5 x6 x7 x30 w) ?_ ?_
                          ·
                            exact sh_sound _ _ _ _ (Eq.mp (by kernel_rfl) h)
                          · intro σ w h
                            obtain ⟨x0, e0, h⟩ := vP_elim h
                            obtain ⟨x3A, x3n, x3c, e3, h⟩ := vS_elim h
                            obtain ⟨x4, e4, h⟩ := vI_elim h
                            obtain ⟨x5, e5, h⟩ := vI_elim h
                            obtain ⟨x6, e6, h⟩ := vI_elim h
                            obtain ⟨x7, e7, h⟩ := vI_elim h
                            obtain ⟨x30, e30, h⟩ := vB_elim h
                            refine J.sub ?_ ((((((((Sub.base _).upd e0).upd e3).upd e4).upd e5).upd e6).upd e7).upd e30)
                            clear e0 e3 e4 e5 e6 e7 e30
                            exact sh_sound _ _ _ _ (Eq.mp (by kernel_rfl) h)
                        · intro σ w h
                          obtain ⟨x0, e0, h⟩ := vP_elim h
                          obtain ⟨x3A, x3n, x3c, e3, h⟩ := vS_elim h
                          obtain ⟨x4, e4, h⟩ := vI_elim h
                          obtain ⟨x5, e5, h⟩ := vI_elim h
                          obtain ⟨x6, e6, h⟩ := vI_elim h
                          obtain ⟨x7, e7, h⟩ := vI_elim h
                          refine J.sub ?_ (((((((Sub.base _).upd e0).upd e3).upd e4).upd e5).upd e6).upd e7)
                          clear e0 e3 e4 e5 e6 e7
                          refine J_seq (fun σ w => vP (σ 0) fun x0 => vS (σ 3) fun x3A x3n x3c => vI .i64 (σ 4) fun x4 => vI .i64 (σ 5) fun x5 => vI .i64 (σ 6) fun x6 => vI .i64 (σ 7) fun x7 => ref03_Set_Bytes.p9 (ref03_Set_Bytes.l1 (ref03_Set_Bytes.l0 K k0) K k1) (ref03_Set_Bytes.l0 K k0) K x0 x3A x3n x3c x4 x5 x6 x7 w) ?_ ?_
                          ·
                            refine J_block ?_
                            refine J_seq (fun σ w => vP (σ 0) fun x0 => vS (σ 3) fun x3A x3n x3c => vI .i64 (σ 4) fun x4 => vI .i64 (σ 5) fun x5 => vI .i64 (σ 6) fun x6 => vI .i64 (σ 7) fun x7 => ref03_Set_Bytes.p8 (ref03_Set_Bytes.l1 (ref03_Set_Bytes.l0 K k0) K k1) (ref03_Set_Bytes.l0 K k0) K x0 x3A x3n x3c x4 x5 x6 x7 w) ?_ ?_
                            ·
                              exact sh_sound _ _ _ _ (Eq.mp (by kernel_rfl) h)
                            · intro σ w h
                              obtain ⟨x0, e0, h⟩ := vP_elim h
                              obtain ⟨x3A, x3n, x3c, e3, h⟩ := vS_elim h
                              obtain ⟨x4, e4, h⟩ := vI_elim h
                              obtain ⟨x5, e5, h⟩ := vI_elim h
                              obtain ⟨x6, e6, h⟩ := vI_elim h
                              obtain ⟨x7, e7, h⟩ := vI_elim h
                              refine J.sub ?_ (((((((Sub.base _).upd e0).upd e3).upd e4).upd e5).upd e6).upd e7)
                              clear e0 e3 e4 e5 e6 e7
                              exact sh_sound _ _ _ _ (Eq.mp (by kernel_rfl) h)
                          · intro σ w h
                            obtain ⟨x0, e0, h⟩ := vP_elim h
                            obtain ⟨x3A, x3n, x3c, e3, h⟩ := vS_elim h
                            obtain ⟨x4, e4, h⟩ := vI_elim h
                            obtain ⟨x5, e5, h⟩ := vI_elim h
                            obtain ⟨x6, e6, h⟩ := vI_elim h
                            obtain ⟨x7, e7, h⟩ := vI_elim h
                            refine J.sub ?_ (((((((Sub.base _).upd e0).upd e3).upd e4).upd e5).upd e6).upd e7)
                            clear e0 e3 e4 e5 e6 e7
                            exact sh_sound _ _ _ _ (Eq.mp (by kernel_rfl) h)
                  · intro σ w h
                    obtain ⟨x0, e0, h⟩ := vP_elim h
                    obtain ⟨x3A, x3n, x3c, e3, h⟩ := vS_elim h
                    obtain ⟨x4, e4, h⟩ := vI_elim h
                    obtain ⟨x5, e5, h⟩ := vI_elim h
                    refine J.sub ?_ (((((Sub.base _).upd e0).upd e3).upd e4).upd e5)
                    clear e0 e3 e4 e5
                    exact sh_sound _ _ _ _ (Eq.mp (by kernel_rfl) h)
              · intro σ w h
                obtain ⟨x0, e0, h⟩ := vP_elim h
                obtain ⟨x3A, x3n, x3c, e3, h⟩ := vS_elim h
                obtain ⟨x4, e4, h⟩ := vI_elim h
                refine J.sub ?_ ((((Sub.base _).upd e0).upd e3).upd e4)
                clear e0 e3 e4
                exact sh_sound _ _ _ _ (Eq.mp (by kernel_rfl) h)
      · intro σ w h
        obtain ⟨x3A, x3n, x3c, e3, h⟩ := vS_elim h
        refine J.sub ?_ ((Sub.base _).upd e3)
        clear e3
        exact sh_sound _ _ _ _ (Eq.mp (by kernel_rfl) h)

/-! ### (*hayloft/set.Set).Copy: function 25 -/
abbrev set_Set_Copy.p3 (K : Value → World → Prop) (x3 : Option Addr) (w : World) : Prop :=
  K (.pointer x3) w
abbrev set_Set_Copy.p2 (K : Value → World → Prop) (x0 : Option Addr) (x3 : Option Addr) (w : World) : Prop :=
  ∃ (S6 : Array Obj → Prop), S6 w.heap ∧ ∃ (a7 : Addr), x3 = some a7 ∧ ∃ (a8 : Addr), x0 = some a8 ∧ ∃ (A9 : Option Addr) (m10 : Nat) (c11 : Nat), (∀ w' : World, S6 w'.heap → w'.cell? (a7.add 1) = some (.slice A9 m10 c11)) ∧ ∃ (A12 : Option Addr) (m13 : Nat) (c14 : Nat), (∀ w' : World, S6 w'.heap → w'.cell? (a8.add 1) = some (.slice A12 m13 c14)) ∧ SemJ Tryd.prog (Builtin.copy_ #[59, 59] 3 #[.slice A9 m10 c11, .slice A12 m13 c14]) (fun v15 w16 => ∃ (n17 : Int), v15 = .int .i64 n17 ∧ set_Set_Copy.p3 K x3 w16) w
abbrev set_Set_Copy.p1 (K : Value → World → Prop) (x0 : Option Addr) (w : World) : Prop :=
  ∃ (a1 : Addr), x0 = some a1 ∧ ∃ (n2 : Int), w.cell? a1 = some (.int .i64 n2) ∧ CallsE Tryd.prog 17 #[.int .i64 n2] w (fun v3 w4 => ∃ (p5 : Option Addr), v3 = .pointer p5 ∧ set_Set_Copy.p2 K x0 p5 w4)
abbrev set_Set_Copy.p0 (K : Value → World → Prop) (x0 : Option Addr) (w : World) : Prop :=
  condP x0.isNone (K (.pointer none) w) (set_Set_Copy.p1 K x0 w)
abbrev set_Set_Copy.F (q0 : Option Addr) (K : Value → World → Prop) (w : World) : Prop :=
  set_Set_Copy.p0 K q0 w
theorem set_Set_Copy.ok {q0 : Option Addr} {K : Value → World → Prop} {w : World} (h : set_Set_Copy.F q0 K w) :
    CallsE Tryd.prog 25 #[.pointer q0] w K := by
  refine calls_of_J (n := 21) (rs := [.tmp 2]) Tryd.func25 rfl rfl rfl rfl ?_
  refine J_seq (fun σ w => vP (σ 0) fun x0 => set_Set_Copy.p0 K x0 w) ?_ ?_
  ·
    exact sh_sound _ _ _ _ (Eq.mp (by kernel_rfl) h)
  · intro σ w h
    obtain ⟨x0, e0, h⟩ := vP_elim h
    refine J.sub ?_ ((Sub.base _).upd e0)
    clear e0
    refine J_seq (fun σ w => vP (σ 0) fun x0 => set_Set_Copy.p1 K x0 w) ?_ ?_
    ·
      exact sh_sound _ _ _ _ (Eq.mp (by kernel_rfl) h)
    · intro σ w h
      obtain ⟨x0, e0, h⟩ := vP_elim h
      refine J.sub ?_ ((Sub.base _).upd e0)
      clear e0
      refine J_seq (fun σ w => vP (σ 0) fun x0 => vP (σ 3) fun x3 => set_Set_Copy.p2 K x0 x3 w) ?_ ?_
      ·
        exact sh_sound _ _ _ _ (Eq.mp (by kernel_rfl) h)
      · intro σ w h
        obtain ⟨x0, e0, h⟩ := vP_elim h
        obtain ⟨x3, e3, h⟩ := vP_elim h
        refine J.sub ?_ (((Sub.base _).upd e0).upd e3)
        clear e0 e3
        refine J_seq (fun σ w => vP (σ 3) fun x3 => set_Set_Copy.p3 K x3 w) ?_ ?_
        ·
          exact J_held [8] [(0, 0), (1, 0), (2, 0), (4, 0), (5, 0), (6, 0), (3, 1), (7, 1), (8, 3)] (by kernel_rfl) (Eq.mp (by kernel_rfl) h)
        · intro σ w h
          obtain ⟨x3, e3, h⟩ := vP_elim h
          refine J.sub ?_ ((Sub.base _).upd e3)
          clear e3
          exact sh_sound _ _ _ _ (Eq.mp (by kernel_rfl) h)

/-! ### (*hayloft/set.Set).Del: function 26 -/
abbrev set_Set_Del.p2 (K : Value → World → Prop) (w : World) : Prop :=
  K (.bool true) w
abbrev set_Set_Del.p1 (K : Value → World → Prop) (x0 : Option Addr) (x1 : Int) (w : World) : Prop :=
  ∃ (S4 : Array Obj → Prop), S4 w.heap ∧ ∃ (a5 : Addr), x0 = some a5 ∧ (64 : Int) ≠ 0 ∧ (64 : Int) ≠ 0 ∧ 0 ≤ (Int.tmod x1 64) ∧ ∃ (A6 : Option Addr) (m7 : Nat) (c8 : Nat), (∀ w' : World, S4 w'.heap → w'.cell? (a5.add 1) = some (.slice A6 m7 c8)) ∧ (0 ≤ (IntKind.wrap .i64 (Int.tdiv x1 64)) ∧ (IntKind.wrap .i64 (Int.tdiv x1 64)) < ((m7 : Nat) : Int)) ∧ ∃ (a9 : Addr), A6 = some a9 ∧ ∃ (n10 : Int), (∀ w' : World, S4 w'.heap → w'.cell? (a9.add ((IntKind.wrap .i64 (Int.tdiv x1 64)).toNat)) = some (.int .u64 n10)) ∧ (0 ≤ (IntKind.wrap .i64 (Int.tdiv x1 64)) ∧ (IntKind.wrap .i64 (Int.tdiv x1 64)) < ((m7 : Nat) : Int)) ∧ ∃ (a11 : Addr), A6 = some a11 ∧ canStore w (a11.add ((IntKind.wrap .i64 (Int.tdiv x1 64)).toNat)) ∧ wlet (w.setCell (a11.add ((IntKind.wrap .i64 (Int.tdiv x1 64)).toNat)) (.int .u64 (ibits .andNot .u64 n10 (ishl .u64 1 (Int.tmod x1 64))))) fun w12 => set_Set_Del.p2 K w12
abbrev set_Set_Del.p0 (K : Value → World → Prop) (x0 : Option Addr) (x1 : Int) (w : World) : Prop :=
  CallsE Tryd.prog 15 #[.pointer x0, .int .i64 x1] w (fun v1 w2 => ∃ (b3 : Bool), v1 = .bool b3 ∧ condP (!b3) (K (.bool false) w2) (set_Set_Del.p1 K x0 x1 w2))
abbrev set_Set_Del.F (q0 : Option Addr) (q1 : Int) (K : Value → World → Prop) (w : World) : Prop :=
  set_Set_Del.p0 K q0 q1 w
theorem set_Set_Del.ok {q0 : Option Addr} {q1 : Int} {K : Value → World → Prop} {w : World} (h : set_Set_Del.F q0 q1 K w) :
    CallsE Tryd.prog 26 #[.pointer q0, .int .i64 q1] w K := by
  refine calls_of_J (n := 22) (rs := [.tmp 4]) Tryd.func26 rfl rfl rfl rfl ?_
  refine J_seq (fun σ w => vP (σ 0) fun x0 => vI .i64 (σ 1) fun x1 => set_Set_Del.p0 K x0 x1 w) ?_ ?_
  ·
    exact sh_sound _ _ _ _ (Eq.mp (by kernel_rfl) h)
  · intro σ w h
    obtain ⟨x0, e0, h⟩ := vP_elim h
    obtain ⟨x1, e1, h⟩ := vI_elim h
    refine J.sub ?_ (((Sub.base _).upd e0).upd e1)
    clear e0 e1
    refine J_seq (fun σ w => vP (σ 0) fun x0 => vI .i64 (σ 1) fun x1 => set_Set_Del.p1 K x0 x1 w) ?_ ?_
    ·
      exact sh_sound _ _ _ _ (Eq.mp (by kernel_rfl) h)
    · intro σ w h
      obtain ⟨x0, e0, h⟩ := vP_elim h
      obtain ⟨x1, e1, h⟩ := vI_elim h
      refine J.sub ?_ (((Sub.base _).upd e0).upd e1)
      clear e0 e1
      refine J_seq (fun σ w => set_Set_Del.p2 K w) ?_ ?_
      ·
        exact J_held [13] [(0, 0), (1, 0), (2, 0), (4, 0), (5, 0), (8, 0), (9, 0), (10, 0), (3, 1), (6, 0), (7, 1), (11, 0), (12, 0), (13, 3)] (by kernel_rfl) (Eq.mp (by kernel_rfl) h)
      · intro σ w h
        refine J.sub ?_ (Sub.base _)
        exact sh_sound _ _ _ _ (Eq.mp (by kernel_rfl) h)

/-! ### hayloft/hayloftref01.Copy: function 27 -/
abbrev ref01_Copy.F (q0A : Option Addr) (q0n : Nat) (q0c : Nat) (K : Value → World → Prop) (w : World) : Prop :=
  wlet (w.alloc (.cells #[] 5)) fun w1 => SemJ Tryd.prog (Builtin.append_ #[42, 42] 42 #[.slice (some ⟨w.heap.size, 0, none⟩) 0 0, .slice q0A q0n q0c]) (fun v2 w3 => ∃ (A4 : Option Addr) (m5 : Nat) (c6 : Nat), v2 = .slice A4 m5 c6 ∧ K (.slice A4 m5 c6) w3) w1
theorem ref01_Copy.ok {q0A : Option Addr} {q0n : Nat} {q0c : Nat} {K : Value → World → Prop} {w : World} (h : ref01_Copy.F q0A q0n q0c K w) :
    CallsE Tryd.prog 27 #[.slice q0A q0n q0c] w K := by
  refine calls_of_J (n := 6) (rs := [.tmp 2]) Tryd.func27 rfl rfl rfl rfl ?_
  exact sh_sound _ _ _ _ (Eq.mp (by kernel_rfl) h)

/-! ### hayloft/set.Read: function 28 -/
abbrev set_Read.p9 (L0 : Int → Option Addr → Option Addr → Nat → Nat → Int → Int → World → Prop) (K : Value → World → Prop) (x0 : Int) (x7 : Option Addr) (x31A : Option Addr) (x31n : Nat) (x31c : Nat) (x32 : Int) (x33 : Int) (w : World) : Prop :=
  L0 x0 x7 x31A x31n x31c x32 (IntKind.wrap .i64 (x33 + (1 : Int))) w
abbrev set_Read.p8 (L0 : Int → Option Addr → Option Addr → Nat → Nat → Int → Int → World → Prop) (K : Value → World → Prop) (x0 : Int) (x7 : Option Addr) (x8 : Int) (x9 : Int) (x31A : Option Addr) (x31n : Nat) (x31c : Nat) (x32 : Int) (x33 : Int) (w : World) : Prop :=
  ∃ (S6 : Array Obj → Prop), S6 w.heap ∧ ∃ (a7 : Addr), x7 = some a7 ∧ (8 : Int) ≠ 0 ∧ (8 : Int) ≠ 0 ∧ 0 ≤ (IntKind.wrap .i64 ((8 : Int) * (Int.tmod x8 8))) ∧ ∃ (A8 : Option Addr) (m9 : Nat) (c10 : Nat), (∀ w' : World, S6 w'.heap → w'.cell? (a7.add 1) = some (.slice A8 m9 c10)) ∧ (0 ≤ (IntKind.wrap .i64 (Int.tdiv x8 8)) ∧ (IntKind.wrap .i64 (Int.tdiv x8 8)) < ((m9 : Nat) : Int)) ∧ ∃ (a11 : Addr), A8 = some a11 ∧ ∃ (n12 : Int), (∀ w' : World, S6 w'.heap → w'.cell? (a11.add ((IntKind.wrap .i64 (Int.tdiv x8 8)).toNat)) = some (.int .u64 n12)) ∧ (0 ≤ (IntKind.wrap .i64 (Int.tdiv x8 8)) ∧ (IntKind.wrap .i64 (Int.tdiv x8 8)) < ((m9 : Nat) : Int)) ∧ ∃ (a13 : Addr), A8 = some a13 ∧ canStore w (a13.add ((IntKind.wrap .i64 (Int.tdiv x8 8)).toNat)) ∧ wlet (w.setCell (a13.add ((IntKind.wrap .i64 (Int.tdiv x8 8)).toNat)) (.int .u64 (ibits .or .u64 n12 (ishl .u64 (IntKind.wrap .u64 x9) (IntKind.wrap .i64 ((8 : Int) * (Int.tmod x8 8))))))) fun w14 => set_Read.p9 L0 K x0 x7 x31A x31n x31c x32 x33 w14
abbrev set_Read.p7 (L0 : Int → Option Addr → Option Addr → Nat → Nat → Int → Int → World → Prop) (K : Value → World → Prop) (x0 : Int) (x7 : Option Addr) (x31A : Option Addr) (x31n : Nat) (x31c : Nat) (x32 : Int) (x33 : Int) (w : World) : Prop :=
  (0 ≤ x33 ∧ x33 < ((x31n : Nat) : Int)) ∧ ∃ (a4 : Addr), x31A = some a4 ∧ ∃ (n5 : Int), w.cell? (a4.add x33.toNat) = some (.int .u8 n5) ∧ set_Read.p8 L0 K x0 x7 x33 n5 x31A x31n x31c x32 x33 w
abbrev set_Read.p12 (K : Value → World → Prop) (x7 : Option Addr) (w : World) : Prop :=
  K (.tuple #[.pointer x7, .int .i64 0]) w
abbrev set_Read.p11 (K : Value → World → Prop) (x7 : Option Addr) (x71 : Bool) (w : World) : Prop :=
  condP x71 (K (.tuple #[.pointer none, .int .i64 4]) w) (set_Read.p12 K x7 w)
abbrev set_Read.p10 (K : Value → World → Prop) (x0 : Int) (x7 : Option Addr) (w : World) : Prop :=
  (64 : Int) ≠ 0 ∧ condP ((Int.tmod x0 64) != (0 : Int)) (∃ (a15 : Addr), x7 = some a15 ∧ ∃ (A16 : Option Addr) (m17 : Nat) (c18 : Nat), w.cell? (a15.add 1) = some (.slice A16 m17 c18) ∧ (64 : Int) ≠ 0 ∧ (0 ≤ (IntKind.wrap .i64 (Int.tdiv x0 64)) ∧ (IntKind.wrap .i64 (Int.tdiv x0 64)) < ((m17 : Nat) : Int)) ∧ ∃ (a19 : Addr), A16 = some a19 ∧ ∃ (n20 : Int), w.cell? (a19.add ((IntKind.wrap .i64 (Int.tdiv x0 64)).toNat)) = some (.int .u64 n20) ∧ (64 : Int) ≠ 0 ∧ 0 ≤ (Int.tmod x0 64) ∧ set_Read.p11 K x7 ((ishr .u64 n20 (Int.tmod x0 64)) != (0 : Int)) w) (set_Read.p11 K x7 false w)
abbrev set_Read.p6 (L0 : Int → Option Addr → Option Addr → Nat → Nat → Int → Int → World → Prop) (K : Value → World → Prop) (x0 : Int) (x7 : Option Addr) (x31A : Option Addr) (x31n : Nat) (x31c : Nat) (x32 : Int) (x33 : Int) (x34 : Bool) (w : World) : Prop :=
  condP x34 (set_Read.p7 L0 K x0 x7 x31A x31n x31c x32 x33 w) (set_Read.p10 K x0 x7 w)
abbrev set_Read.b0 (L0 : Int → Option Addr → Option Addr → Nat → Nat → Int → Int → World → Prop) (K : Value → World → Prop) (x0 : Int) (x7 : Option Addr) (x31A : Option Addr) (x31n : Nat) (x31c : Nat) (x32 : Int) (x33 : Int) (w : World) : Prop :=
  set_Read.p6 L0 K x0 x7 x31A x31n x31c x32 x33 (decide (x33 < x32)) w
def set_Read.l0 (K : Value → World → Prop) (k : Nat) : Int → Option Addr → Option Addr → Nat → Nat → Int → Int → World → Prop :=
  Nat.rec (motive := fun _ => Int → Option Addr → Option Addr → Nat → Nat → Int → Int → World → Prop) (fun _ _ _ _ _ _ _ _ => False) (fun _ ih => set_Read.b0 ih K) k
theorem set_Read.l0_succ (K : Value → World → Prop) (k : Nat) (x0 : Int) (x7 : Option Addr) (x31A : Option Addr) (x31n : Nat) (x31c : Nat) (x32 : Int) (x33 : Int) (w : World) : set_Read.l0 K (k + 1) x0 x7 x31A x31n x31c x32 x33 w = set_Read.b0 (set_Read.l0 K k) K x0 x7 x31A x31n x31c x32 x33 w := rfl
abbrev set_Read.p5 (K : Value → World → Prop) (x0 : Int) (x7 : Option Addr) (x31A : Option Addr) (x31n : Nat) (x31c : Nat) (x32 : Int) (x33 : Int) (w : World) : Prop :=
  ∃ k, set_Read.l0 K k x0 x7 x31A x31n x31c x32 x33 w
abbrev set_Read.p4 (K : Value → World → Prop) (x0 : Int) (x1A : Option Addr) (x1n : Nat) (x1c : Nat) (x7 : Option Addr) (w : World) : Prop :=
  set_Read.p5 K x0 x7 x1A x1n x1c ((x1n : Nat) : Int) 0 w
abbrev set_Read.p3 (K : Value → World → Prop) (x0 : Int) (x1A : Option Addr) (x1n : Nat) (x1c : Nat) (w : World) : Prop :=
  CallsE Tryd.prog 17 #[.int .i64 x0] w (fun v1 w2 => ∃ (p3 : Option Addr), v1 = .pointer p3 ∧ set_Read.p4 K x0 x1A x1n x1c p3 w2)
abbrev set_Read.p2 (K : Value → World → Prop) (x0 : Int) (x1A : Option Addr) (x1n : Nat) (x1c : Nat) (w : World) : Prop :=
  (8 : Int) ≠ 0 ∧ condP (decide (((x1n : Nat) : Int) < (IntKind.wrap .i64 (Int.tdiv (IntKind.wrap .i64 (x0 + (7 : Int))) 8)))) (K (.tuple #[.pointer none, .int .i64 3]) w) (condP (decide ((IntKind.wrap .i64 (Int.tdiv (IntKind.wrap .i64 (x0 + (7 : Int))) 8)) < ((x1n : Nat) : Int))) (K (.tuple #[.pointer none, .int .i64 6]) w) (set_Read.p3 K x0 x1A x1n x1c w))
abbrev set_Read.p1 (K : Value → World → Prop) (x0 : Int) (x1A : Option Addr) (x1n : Nat) (x1c : Nat) (x15 : Bool) (w : World) : Prop :=
  condP x15 (K (.tuple #[.pointer none, .int .i64 2]) w) (set_Read.p2 K x0 x1A x1n x1c w)
abbrev set_Read.p0 (K : Value → World → Prop) (x0 : Int) (x1A : Option Addr) (x1n : Nat) (x1c : Nat) (w : World) : Prop :=
  condP (decide (x0 < (0 : Int))) (set_Read.p1 K x0 x1A x1n x1c true w) (set_Read.p1 K x0 x1A x1n x1c (decide ((65536 : Int) < x0)) w)
abbrev set_Read.F (q0 : Int) (q1A : Option Addr) (q1n : Nat) (q1c : Nat) (K : Value → World → Prop) (w : World) : Prop :=
  set_Read.p0 K q0 q1A q1n q1c w
theorem set_Read.ok {q0 : Int} {q1A : Option Addr} {q1n : Nat} {q1c : Nat} {K : Value → World → Prop} {w : World} (h : set_Read.F q0 q1A q1n q1c K w) :
    CallsE Tryd.prog 28 #[.int .i64 q0, .slice q1A q1n q1c] w K := by
  refine calls_of_J (n := 73) (rs := [.tmp 4, .tmp 5]) Tryd.func28 rfl rfl rfl rfl ?_
  refine J_seq (fun σ w => vI .i64 (σ 0) fun x0 => vS (σ 1) fun x1A x1n x1c => set_Read.p0 K x0 x1A x1n x1c w) ?_ ?_
  ·
    exact sh_sound _ _ _ _ (Eq.mp (by kernel_rfl) h)
  · intro σ w h
    obtain ⟨x0, e0, h⟩ := vI_elim h
    obtain ⟨x1A, x1n, x1c, e1, h⟩ := vS_elim h
    refine J.sub ?_ (((Sub.base _).upd e0).upd e1)
    clear e0 e1
    refine J_seq (fun σ w => vI .i64 (σ 0) fun x0 => vS (σ 1) fun x1A x1n x1c => set_Read.p2 K x0 x1A x1n x1c w) ?_ ?_
    ·
      refine J_seq (fun σ w => vI .i64 (σ 0) fun x0 => vS (σ 1) fun x1A x1n x1c => vB (σ 15) fun x15 => set_Read.p1 K x0 x1A x1n x1c x15 w) ?_ ?_
      ·
        exact sh_sound _ _ _ _ (Eq.mp (by kernel_rfl) h)
      · intro σ w h
        obtain ⟨x0, e0, h⟩ := vI_elim h
        obtain ⟨x1A, x1n, x1c, e1, h⟩ := vS_elim h
        obtain ⟨x15, e15, h⟩ := vB_elim h
        refine J.sub ?_ ((((Sub.base _).upd e0).upd e1).upd e15)
        clear e0 e1 e15
        exact sh_sound _ _ _ _ (Eq.mp (by kernel_rfl) h)
    · intro σ w h
      obtain ⟨x0, e0, h⟩ := vI_elim h
      obtain ⟨x1A, x1n, x1c, e1, h⟩ := vS_elim h
      refine J.sub ?_ (((Sub.base _).upd e0).upd e1)
      clear e0 e1
      refine J_seq (fun σ w => vI .i64 (σ 0) fun x0 => vS (σ 1) fun x1A x1n x1c => set_Read.p3 K x0 x1A x1n x1c w) ?_ ?_
      ·
        exact sh_sound _ _ _ _ (Eq.mp (by kernel_rfl) h)
      · intro σ w h
        obtain ⟨x0, e0, h⟩ := vI_elim h
        obtain ⟨x1A, x1n, x1c, e1, h⟩ := vS_elim h
        refine J.sub ?_ (((Sub.base _).upd e0).upd e1)
        clear e0 e1
        refine J_seq (fun σ w => vI .i64 (σ 0) fun x0 => vS (σ 1) fun x1A x1n x1c => vP (σ 7) fun x7 => set_Read.p4 K x0 x1A x1n x1c x7 w) ?_ ?_
        ·
          exact sh_sound _ _ _ _ (Eq.mp (by kernel_rfl) h)
        · intro σ w h
          obtain ⟨x0, e0, h⟩ := vI_elim h
          obtain ⟨x1A, x1n, x1c, e1, h⟩ := vS_elim h
          obtain ⟨x7, e7, h⟩ := vP_elim h
          refine J.sub ?_ ((((Sub.base _).upd e0).upd e1).upd e7)
          clear e0 e1 e7
          refine J_seq (fun σ w => vI .i64 (σ 0) fun x0 => vP (σ 7) fun x7 => set_Read.p10 K x0 x7 w) ?_ ?_
          ·
            refine J_seq (fun σ w => vI .i64 (σ 0) fun x0 => vP (σ 7) fun x7 => vS (σ 31) fun x31A x31n x31c => vI .i64 (σ 32) fun x32 => vI .i64 (σ 33) fun x33 => set_Read.p5 K x0 x7 x31A x31n x31c x32 x33 w) ?_ ?_
            ·
              exact sh_sound _ _ _ _ (Eq.mp (by kernel_rfl) h)
            · intro σ w h
              obtain ⟨x0, e0, h⟩ := vI_elim h
              obtain ⟨x7, e7, h⟩ := vP_elim h
              obtain ⟨x31A, x31n, x31c, e31, h⟩ := vS_elim h
              obtain ⟨x32, e32, h⟩ := vI_elim h
              obtain ⟨x33, e33, h⟩ := vI_elim h
              refine J.sub ?_ ((((((Sub.base _).upd e0).upd e7).upd e31).upd e32).upd e33)
              clear e0 e7 e31 e32 e33
              refine J_block ?_
              refine J_loop (fun k σ w => vI .i64 (σ 0) fun x0 => vP (σ 7) fun x7 => vS (σ 31) fun x31A x31n x31c => vI .i64 (σ 32) fun x32 => vI .i64 (σ 33) fun x33 => set_Read.l0 K k x0 x7 x31A x31n x31c x32 x33 w) (Eq.mp (by kernel_rfl) h) ?_ ?_
              · intro σ w h
                obtain ⟨x0, e0, h⟩ := vI_elim h
                obtain ⟨x7, e7, h⟩ := vP_elim h
                obtain ⟨x31A, x31n, x31c, e31, h⟩ := vS_elim h
                obtain ⟨x32, e32, h⟩ := vI_elim h
                obtain ⟨x33, e33, h⟩ := vI_elim h
                exact h
              · intro k0 σ w h
                obtain ⟨x0, e0, h⟩ := vI_elim h
                obtain ⟨x7, e7, h⟩ := vP_elim h
                obtain ⟨x31A, x31n, x31c, e31, h⟩ := vS_elim h
                obtain ⟨x32, e32, h⟩ := vI_elim h
                obtain ⟨x33, e33, h⟩ := vI_elim h
                refine J.sub ?_ ((((((Sub.base _).upd e0).upd e7).upd e31).upd e32).upd e33)
                clear e0 e7 e31 e32 e33
                refine J_seq (fun σ w => vI .i64 (σ 0) fun x0 => vP (σ 7) fun x7 => vS (σ 31) fun x31A x31n x31c => vI .i64 (σ 32) fun x32 => vI .i64 (σ 33) fun x33 => vB (σ 34) fun x34 => set_Read.p6 (set_Read.l0 K k0) K x0 x7 x31A x31n x31c x32 x33 x34 w) ?_ ?_
                ·
                  exact sh_sound _ _ _ _ (Eq.mp (by kernel_rfl) h)
                · intro σ w h
                  obtain ⟨x0, e0, h⟩ := vI_elim h
                  obtain ⟨x7, e7, h⟩ := vP_elim h
                  obtain ⟨x31A, x31n, x31c, e31, h⟩ := vS_elim h
                  obtain ⟨x32, e32, h⟩ := vI_elim h
                  obtain ⟨x33, e33, h⟩ := vI_elim h
                  obtain ⟨x34, e34, h⟩ := vB_elim h
                  refine J.sub ?_ (((((((Sub.base _).upd e0).upd e7).upd e31).upd e32).upd e33).upd e34)
                  clear e0 e7 e31 e32 e33 e34
                  refine J_seq (fun σ w => vI .i64 (σ 0) fun x0 => vP (σ 7) fun x7 => vS (σ 31) fun x31A x31n x31c => vI .i64 (σ 32) fun x32 => vI .i64 (σ 33) fun x33 => set_Read.p7 (set_Read.l0 K k0) K x0 x7 x31A x31n x31c x32 x33 w) ?_ ?_
                  ·
                    exact sh_sound _ _ _ _ (Eq.mp (by kernel_rfl) h)
                  · intro σ w h
                    obtain ⟨x0, e0, h⟩ := vI_elim h
                    obtain ⟨x7, e7, h⟩ := vP_elim h
                    obtain ⟨x31A, x31n, x31c, e31, h⟩ := vS_elim h
                    obtain ⟨x32, e32, h⟩ := vI_elim h
                    obtain ⟨x33, e33, h⟩ := vI_elim h
                    refine J.sub ?_ ((((((Sub.base _).upd e0).upd e7).upd e31).upd e32).upd e33)
                    clear e0 e7 e31 e32 e33
                    refine J_seq (fun σ w => vI .i64 (σ 0) fun x0 => vP (σ 7) fun x7 => vS (σ 31) fun x31A x31n x31c => vI .i64 (σ 32) fun x32 => vI .i64 (σ 33) fun x33 => set_Read.p9 (set_Read.l0 K k0) K x0 x7 x31A x31n x31c x32 x33 w) ?_ ?_
                    ·
                      refine J_block ?_
                      refine J_seq (fun σ w => vI .i64 (σ 0) fun x0 => vP (σ 7) fun x7 => vI .i64 (σ 8) fun x8 => vI .u8 (σ 9) fun x9 => vS (σ 31) fun x31A x31n x31c => vI .i64 (σ 32) fun x32 => vI .i64 (σ 33) fun x33 => set_Read.p8 (set_Read.l0 K k0) K x0 x7 x8 x9 x31A x31n x31c x32 x33 w) ?_ ?_
                      ·
                        exact sh_sound _ _ _ _ (Eq.mp (by kernel_rfl) h)
                      · intro σ w h
                        obtain ⟨x0, e0, h⟩ := vI_elim h
                        obtain ⟨x7, e7, h⟩ := vP_elim h
                        obtain ⟨x8, e8, h⟩ := vI_elim h
                        obtain ⟨x9, e9, h⟩ := vI_elim h
                        obtain ⟨x31A, x31n, x31c, e31, h⟩ := vS_elim h
                        obtain ⟨x32, e32, h⟩ := vI_elim h
                        obtain ⟨x33, e33, h⟩ := vI_elim h
                        refine J.sub ?_ ((((((((Sub.base _).upd e0).upd e7).upd e8).upd e9).upd e31).upd e32).upd e33)
                        clear e0 e7 e8 e9 e31 e32 e33
                        exact J_held [16] [(0, 0), (1, 0), (2, 0), (4, 0), (5, 0), (8, 0), (9, 0), (10, 0), (11, 0), (12, 0), (13, 0), (3, 1), (6, 0), (7, 1), (14, 0), (15, 0), (16, 3)] (by kernel_rfl) (Eq.mp (by kernel_rfl) h)
                    · intro σ w h
                      obtain ⟨x0, e0, h⟩ := vI_elim h
                      obtain ⟨x7, e7, h⟩ := vP_elim h
                      obtain ⟨x31A, x31n, x31c, e31, h⟩ := vS_elim h
                      obtain ⟨x32, e32, h⟩ := vI_elim h
                      obtain ⟨x33, e33, h⟩ := vI_elim h
                      refine J.sub ?_ ((((((Sub.base _).upd e0).upd e7).upd e31).upd e32).upd e33)
                      clear e0 e7 e31 e32 e33
                      exact sh_sound _ _ _ _ (Eq.mp (by kernel_rfl) h)
          · intro σ w h
            obtain ⟨x0, e0, h⟩ := vI_elim h
            obtain ⟨x7, e7, h⟩ := vP_elim h
            refine J.sub ?_ (((Sub.base _).upd e0).upd e7)
            clear e0 e7
            refine J_seq (fun σ w => vP (σ 7) fun x7 => set_Read.p12 K x7 w) ?_ ?_
            ·
              refine J_seq (fun σ w => vP (σ 7) fun x7 => vB (σ 71) fun x71 => set_Read.p11 K x7 x71 w) ?_ ?_
              ·
                exact sh_sound _ _ _ _ (Eq.mp (by kernel_rfl) h)
              · intro σ w h
                obtain ⟨x7, e7, h⟩ := vP_elim h
                obtain ⟨x71, e71, h⟩ := vB_elim h
                refine J.sub ?_ (((Sub.base _).upd e7).upd e71)
                clear e7 e71
                exact sh_sound _ _ _ _ (Eq.mp (by kernel_rfl) h)
            · intro σ w h
              obtain ⟨x7, e7, h⟩ := vP_elim h
              refine J.sub ?_ ((Sub.base _).upd e7)
              clear e7
              exact sh_sound _ _ _ _ (Eq.mp (by kernel_rfl) h)

/-! ### hayloft/hayloftref03.Read: function 29 -/
abbrev ref03_Read.p15 (L1 : Int → Option Addr → Nat → Nat → Option Addr → Int → Int → Int → Int → Int → World → Prop) (L0 : Int → Option Addr → Nat → Nat → Option Addr → Int → Int → World → Prop) (K : Value → World → Prop) (x0 : Int) (x1A : Option Addr) (x1n : Nat) (x1c : Nat) (x7 : Option Addr) (x8 : Int) (x9 : Int) (x10 : Int) (x31 : Int) (x32 : Int) (w : World) : Prop :=
  L1 x0 x1A x1n x1c x7 x8 x9 (IntKind.wrap .i64 (x10 + (1 : Int))) x31 x32 w
abbrev ref03_Read.p14 (L1 : Int → Option Addr → Nat → Nat → Option Addr → Int → Int → Int → Int → Int → World → Prop) (L0 : Int → Option Addr → Nat → Nat → Option Addr → Int → Int → World → Prop) (K : Value → World → Prop) (x0 : Int) (x1A : Option Addr) (x1n : Nat) (x1c : Nat) (x7 : Option Addr) (x8 : Int) (x9 : Int) (x10 : Int) (x31 : Int) (x32 : Int) (w : World) : Prop :=
  (2 : Int) ≠ 0 ∧ ref03_Read.p15 L1 L0 K x0 x1A x1n x1c x7 x8 (IntKind.wrap .i64 (Int.tdiv x9 2)) x10 x31 x32 w
abbrev ref03_Read.p13 (L1 : Int → Option Addr → Nat → Nat → Option Addr → Int → Int → Int → Int → Int → World → Prop) (L0 : Int → Option Addr → Nat → Nat → Option Addr → Int → Int → World → Prop) (K : Value → World → Prop) (x0 : Int) (x1A : Option Addr) (x1n : Nat) (x1c : Nat) (x7 : Option Addr) (x8 : Int) (x9 : Int) (x10 : Int) (x31 : Int) (x32 : Int) (w : World) : Prop :=
  (2 : Int) ≠ 0 ∧ condP ((Int.tmod x9 2) == (1 : Int)) (condP (decide (x0 ≤ (IntKind.wrap .i64 ((IntKind.wrap .i64 ((8 : Int) * x8)) + x10)))) (K (.tuple #[.pointer none, .int .i64 4]) w) (∃ (a6 : Addr), x7 = some a6 ∧ ∃ (A7 : Option Addr) (m8 : Nat) (c9 : Nat), w.cell? a6 = some (.slice A7 m8 c9) ∧ (0 ≤ (IntKind.wrap .i64 ((IntKind.wrap .i64 ((8 : Int) * x8)) + x10)) ∧ (IntKind.wrap .i64 ((IntKind.wrap .i64 ((8 : Int) * x8)) + x10)) < ((m8 : Nat) : Int)) ∧ ∃ (a10 : Addr), A7 = some a10 ∧ canStore w (a10.add ((IntKind.wrap .i64 ((IntKind.wrap .i64 ((8 : Int) * x8)) + x10)).toNat)) ∧ wlet (w.setCell (a10.add ((IntKind.wrap .i64 ((IntKind.wrap .i64 ((8 : Int) * x8)) + x10)).toNat)) (.bool true)) fun w11 => ref03_Read.p14 L1 L0 K x0 x1A x1n x1c x7 x8 x9 x10 x31 x32 w11)) (ref03_Read.p14 L1 L0 K x0 x1A x1n x1c x7 x8 x9 x10 x31 x32 w)
abbrev ref03_Read.p16 (L0 : Int → Option Addr → Nat → Nat → Option Addr → Int → Int → World → Prop) (K : Value → World → Prop) (x0 : Int) (x1A : Option Addr) (x1n : Nat) (x1c : Nat) (x7 : Option Addr) (x31 : Int) (x32 : Int) (w : World) : Prop :=
  L0 x0 x1A x1n x1c x7 x31 (IntKind.wrap .i64 (x32 + (1 : Int))) w
abbrev ref03_Read.b1 (L1 : Int → Option Addr → Nat → Nat → Option Addr → Int → Int → Int → Int → Int → World → Prop) (L0 : Int → Option Addr → Nat → Nat → Option Addr → Int → Int → World → Prop) (K : Value → World → Prop) (x0 : Int) (x1A : Option Addr) (x1n : Nat) (x1c : Nat) (x7 : Option Addr) (x8 : Int) (x9 : Int) (x10 : Int) (x31 : Int) (x32 : Int) (w : World) : Prop :=
  condP (decide (x10 < (8 : Int))) (ref03_Read.p13 L1 L0 K x0 x1A x1n x1c x7 x8 x9 x10 x31 x32 w) (ref03_Read.p16 L0 K x0 x1A x1n x1c x7 x31 x32 w)
def ref03_Read.l1 (L0 : Int → Option Addr → Nat → Nat → Option Addr → Int → Int → World → Prop) (K : Value → World → Prop) (k : Nat) : Int → Option Addr → Nat → Nat → Option Addr → Int → Int → Int → Int → Int → World → Prop :=
  Nat.rec (motive := fun _ => Int → Option Addr → Nat → Nat → Option Addr → Int → Int → Int → Int → Int → World → Prop) (fun _ _ _ _ _ _ _ _ _ _ _ => False) (fun _ ih => ref03_Read.b1 ih L0 K) k
theorem ref03_Read.l1_succ (L0 : Int → Option Addr → Nat → Nat → Option Addr → Int → Int → World → Prop) (K : Value → World → Prop) (k : Nat) (x0 : Int) (x1A : Option Addr) (x1n : Nat) (x1c : Nat) (x7 : Option Addr) (x8 : Int) (x9 : Int) (x10 : Int) (x31 : Int) (x32 : Int) (w : World) : ref03_Read.l1 L0 K (k + 1) x0 x1A x1n x1c x7 x8 x9 x10 x31 x32 w = ref03_Read.b1 (ref03_Read.l1 L0 K k) L0 K x0 x1A x1n x1c x7 x8 x9 x10 x31 x32 w := rfl
abbrev ref03_Read.p12 (L0 : Int → Option Addr → Nat → Nat → Option Addr → Int → Int → World → Prop) (K : Value → World → Prop) (x0 : Int) (x1A : Option Addr) (x1n : Nat) (x1c : Nat) (x7 : Option Addr) (x8 : Int) (x9 : Int) (x10 : Int) (x31 : Int) (x32 : Int) (w : World) : Prop :=
  ∃ k, ref03_Read.l1 L0 K k x0 x1A x1n x1c x7 x8 x9 x10 x31 x32 w
abbrev ref03_Read.p11 (L0 : Int → Option Addr → Nat → Nat → Option Addr → Int → Int → World → Prop) (K : Value → World → Prop) (x0 : Int) (x1A : Option Addr) (x1n : Nat) (x1c : Nat) (x7 : Option Addr) (x8 : Int) (x9 : Int) (x31 : Int) (x32 : Int) (w : World) : Prop :=
  ref03_Read.p12 L0 K x0 x1A x1n x1c x7 x8 x9 0 x31 x32 w
abbrev ref03_Read.p10 (L0 : Int → Option Addr → Nat → Nat → Option Addr → Int → Int → World → Prop) (K : Value → World → Prop) (x0 : Int) (x1A : Option Addr) (x1n : Nat) (x1c : Nat) (x7 : Option Addr) (x8 : Int) (x31 : Int) (x32 : Int) (w : World) : Prop :=
  (0 ≤ x8 ∧ x8 < ((x1n : Nat) : Int)) ∧ ∃ (a4 : Addr), x1A = some a4 ∧ ∃ (n5 : Int), w.cell? (a4.add x8.toNat) = some (.int .u8 n5) ∧ ref03_Read.p11 L0 K x0 x1A x1n x1c x7 x8 (IntKind.wrap .i64 n5) x31 x32 w
abbrev ref03_Read.p9 (L0 : Int → Option Addr → Nat → Nat → Option Addr → Int → Int → World → Prop) (K : Value → World → Prop) (x0 : Int) (x1A : Option Addr) (x1n : Nat) (x1c : Nat) (x7 : Option Addr) (x31 : Int) (x32 : Int) (w : World) : Prop :=
  ref03_Read.p10 L0 K x0 x1A x1n x1c x7 x32 x31 x32 w
abbrev ref03_Read.p17 (K : Value → World → Prop) (x7 : Option Addr) (w : World) : Prop :=
  K (.tuple #[.pointer x7, .int .i64 0]) w
abbrev ref03_Read.p8 (L0 : Int → Option Addr → Nat → Nat → Option Addr → Int → Int → World → Prop) (K : Value → World → Prop) (x0 : Int) (x1A : Option Addr) (x1n : Nat) (x1c : Nat) (x7 : Option Addr) (x31 : Int) (x32 : Int) (x33 : Bool) (w : World) : Prop :=
  condP x33 (ref03_Read.p9 L0 K x0 x1A x1n x1c x7 x31 x32 w) (ref03_Read.p17 K x7 w)
abbrev ref03_Read.b0 (L0 : Int → Option Addr → Nat → Nat → Option Addr → Int → Int → World → Prop) (K : Value → World → Prop) (x0 : Int) (x1A : Option Addr) (x1n : Nat) (x1c : Nat) (x7 : Option Addr) (x31 : Int) (x32 : Int) (w : World) : Prop :=
  ref03_Read.p8 L0 K x0 x1A x1n x1c x7 x31 x32 (decide (x32 < x31)) w
def ref03_Read.l0 (K : Value → World → Prop) (k : Nat) : Int → Option Addr → Nat → Nat → Option Addr → Int → Int → World → Prop :=
  Nat.rec (motive := fun _ => Int → Option Addr → Nat → Nat → Option Addr → Int → Int → World → Prop) (fun _ _ _ _ _ _ _ _ => False) (fun _ ih => ref03_Read.b0 ih K) k
theorem ref03_Read.l0_succ (K : Value → World → Prop) (k : Nat) (x0 : Int) (x1A : Option Addr) (x1n : Nat) (x1c : Nat) (x7 : Option Addr) (x31 : Int) (x32 : Int) (w : World) : ref03_Read.l0 K (k + 1) x0 x1A x1n x1c x7 x31 x32 w = ref03_Read.b0 (ref03_Read.l0 K k) K x0 x1A x1n x1c x7 x31 x32 w := rfl
abbrev ref03_Read.p7 (K : Value → World → Prop) (x0 : Int) (x1A : Option Addr) (x1n : Nat) (x1c : Nat) (x7 : Option Addr) (x31 : Int) (x32 : Int) (w : World) : Prop :=
  ∃ k, ref03_Read.l0 K k x0 x1A x1n x1c x7 x31 x32 w
abbrev ref03_Read.p6 (K : Value → World → Prop) (x0 : Int) (x1A : Option Addr) (x1n : Nat) (x1c : Nat) (x7 : Option Addr) (w : World) : Prop :=
  ref03_Read.p7 K x0 x1A x1n x1c x7 ((x1n : Nat) : Int) 0 w
abbrev ref03_Read.p5 (K : Value → World → Prop) (x0 : Int) (x1A : Option Addr) (x1n : Nat) (x1c : Nat) (w : World) : Prop :=
  CallsE Tryd.prog 30 #[.int .i64 x0] w (fun v1 w2 => ∃ (p3 : Option Addr), v1 = .pointer p3 ∧ ref03_Read.p6 K x0 x1A x1n x1c p3 w2)
abbrev ref03_Read.p4 (K : Value → World → Prop) (x0 : Int) (x1A : Option Addr) (x1n : Nat) (x1c : Nat) (x6 : Int) (w : World) : Prop :=
  condP (decide (x6 < ((x1n : Nat) : Int))) (K (.tuple #[.pointer none, .int .i64 6]) w) (ref03_Read.p5 K x0 x1A x1n x1c w)
abbrev ref03_Read.p3 (K : Value → World → Prop) (x0 : Int) (x1A : Option Addr) (x1n : Nat) (x1c : Nat) (x6 : Int) (w : World) : Prop :=
  condP (decide (((x1n : Nat) : Int) < x6)) (K (.tuple #[.pointer none, .int .i64 3]) w) (ref03_Read.p4 K x0 x1A x1n x1c x6 w)
abbrev ref03_Read.p2 (K : Value → World → Prop) (x0 : Int) (x1A : Option Addr) (x1n : Nat) (x1c : Nat) (w : World) : Prop :=
  (8 : Int) ≠ 0 ∧ ref03_Read.p3 K x0 x1A x1n x1c (IntKind.wrap .i64 (Int.tdiv (IntKind.wrap .i64 (x0 + (7 : Int))) 8)) w
abbrev ref03_Read.p1 (K : Value → World → Prop) (x0 : Int) (x1A : Option Addr) (x1n : Nat) (x1c : Nat) (x16 : Bool) (w : World) : Prop :=
  condP x16 (K (.tuple #[.pointer none, .int .i64 2]) w) (ref03_Read.p2 K x0 x1A x1n x1c w)
abbrev ref03_Read.p0 (K : Value → World → Prop) (x0 : Int) (x1A : Option Addr) (x1n : Nat) (x1c : Nat) (w : World) : Prop :=
  condP (decide (x0 < (0 : Int))) (ref03_Read.p1 K x0 x1A x1n x1c true w) (ref03_Read.p1 K x0 x1A x1n x1c (decide ((65536 : Int) < x0)) w)
abbrev ref03_Read.F (q0 : Int) (q1A : Option Addr) (q1n : Nat) (q1c : Nat) (K : Value → World → Prop) (w : World) : Prop :=
  ref03_Read.p0 K q0 q1A q1n q1c w
theorem ref03_Read.ok {q0 : Int} {q1A : Option Addr} {q1n : Nat} {q1c : Nat} {K : Value → World → Prop} {w : World} (h : ref03_Read.F q0 q1A q1n q1c K w) :
    CallsE Tryd.prog 29 #[.int .i64 q0, .slice q1A q1n q1c] w K := by
  refine calls_of_J (n := 66) (rs := [.tmp 4, .tmp 5]) Tryd.func29 rfl rfl rfl rfl ?_
  refine J_seq (fun σ w => vI .i64 (σ 0) fun x0 => vS (σ 1) fun x1A x1n x1c => ref03_Read.p0 K x0 x1A x1n x1c w) ?_ ?_
  ·
    exact sh_sound _ _ _ _ (Eq.mp (by kernel_rfl) h)
  · intro σ w h
    obtain ⟨x0, e0, h⟩ := vI_elim h
    obtain ⟨x1A, x1n, x1c, e1, h⟩ := vS_elim h
    refine J.sub ?_ (((Sub.base _).upd e0).upd e1)
    clear e0 e1
    refine J_seq (fun σ w => vI .i64 (σ 0) fun x0 => vS (σ 1) fun x1A x1n x1c => ref03_Read.p2 K x0 x1A x1n x1c w) ?_ ?_
    ·
      refine J_seq (fun σ w => vI .i64 (σ 0) fun x0 => vS (σ 1) fun x1A x1n x1c => vB (σ 16) fun x16 => ref03_Read.p1 K x0 x1A x1n x1c x16 w) ?_ ?_
      ·
        exact sh_sound _ _ _ _ (Eq.mp (by kernel_rfl) h)
      · intro σ w h
        obtain ⟨x0, e0, h⟩ := vI_elim h
        obtain ⟨x1A, x1n, x1c, e1, h⟩ := vS_elim h
        obtain ⟨x16, e16, h⟩ := vB_elim h
        refine J.sub ?_ ((((Sub.base _).upd e0).upd e1).upd e16)
        clear e0 e1 e16
        exact sh_sound _ _ _ _ (Eq.mp (by kernel_rfl) h)
    · intro σ w h
      obtain ⟨x0, e0, h⟩ := vI_elim h
      obtain ⟨x1A, x1n, x1c, e1, h⟩ := vS_elim h
      refine J.sub ?_ (((Sub.base _).upd e0).upd e1)
      clear e0 e1
      refine J_seq (fun σ w => vI .i64 (σ 0) fun x0 => vS (σ 1) fun x1A x1n x1c => vI .i64 (σ 6) fun x6 => ref03_Read.p3 K x0 x1A x1n x1c x6 w) ?_ ?_
      ·
        exact sh_sound _ _ _ _ (Eq.mp (by kernel_rfl) h)
      · intro σ w h
        obtain ⟨x0, e0, h⟩ := vI_elim h
        obtain ⟨x1A, x1n, x1c, e1, h⟩ := vS_elim h
        obtain ⟨x6, e6, h⟩ := vI_elim h
        refine J.sub ?_ ((((Sub.base _).upd e0).upd e1).upd e6)
        clear e0 e1 e6
        refine J_seq (fun σ w => vI .i64 (σ 0) fun x0 => vS (σ 1) fun x1A x1n x1c => vI .i64 (σ 6) fun x6 => ref03_Read.p4 K x0 x1A x1n x1c x6 w) ?_ ?_
        ·
          exact sh_sound _ _ _ _ (Eq.mp (by kernel_rfl) h)
        · intro σ w h
          obtain ⟨x0, e0, h⟩ := vI_elim h
          obtain ⟨x1A, x1n, x1c, e1, h⟩ := vS_elim h
          obtain ⟨x6, e6, h⟩ := vI_elim h
          refine J.sub ?_ ((((Sub.base _).upd e0).upd e1).upd e6)
          clear e0 e1 e6
          refine J_seq (fun σ w => vI .i64 (σ 0) fun x0 => vS (σ 1) fun x1A x1n x1c => ref03_Read.p5 K x0 x1A x1n x1c w) ?_ ?_
          ·
            exact sh_sound _ _ _ _ (Eq.mp (by kernel_rfl) h)
          · intro σ w h
            obtain ⟨x0, e0, h⟩ := vI_elim h
            obtain ⟨x1A, x1n, x1c, e1, h⟩ := vS_elim h
            refine J.sub ?_ (((Sub.base _).upd e0).upd e1)
            clear e0 e1
            refine J_seq (fun σ w => vI .i64 (σ 0) fun x0 => vS (σ 1) fun x1A x1n x1c => vP (σ 7) fun x7 => ref03_Read.p6 K x0 x1A x1n x1c x7 w) ?_ ?_
            ·
              exact sh_sound _ _ _ _ (Eq.mp (by kernel_rfl) h)
            · intro σ w h
              obtain ⟨x0, e0, h⟩ := vI_elim h
              obtain ⟨x1A, x1n, x1c, e1, h⟩ := vS_elim h
              obtain ⟨x7, e7, h⟩ := vP_elim h
              refine J.sub ?_ ((((Sub.base _).upd e0).upd e1).upd e7)
              clear e0 e1 e7
              refine J_seq (fun σ w => vP (σ 7) fun x7 => ref03_Read.p17 K x7 w) ?_ ?_
              ·
                refine J_seq (fun σ w => vI .i64 (σ 0) fun x0 => vS (σ 1) fun x1A x1n x1c => vP (σ 7) fun x7 => vI .i64 (σ 31) fun x31 => vI .i64 (σ 32) fun x32 => ref03_Read.p7 K x0 x1A x1n x1c x7 x31 x32 w) ?_ ?_
                ·
                  exact sh_sound _ _ _ _ (Eq.mp (by kernel_rfl) h)
                · intro σ w h
                  obtain ⟨x0, e0, h⟩ := vI_elim h
                  obtain ⟨x1A, x1n, x1c, e1, h⟩ := vS_elim h
                  obtain ⟨x7, e7, h⟩ := vP_elim h
                  obtain ⟨x31, e31, h⟩ := vI_elim h
                  obtain ⟨x32, e32, h⟩ := vI_elim h
                  refine J.sub ?_ ((((((Sub.base _).upd e0).upd e1).upd e7).upd e31).upd e32)
                  clear e0 e1 e7 e31 e32
                  refine J_block ?_
                  refine J_loop (fun k σ w => vI .i64 (σ 0) fun x0 => vS (σ 1) fun x1A x1n x1c => vP (σ 7) fun x7 => vI .i64 (σ 31) fun x31 => vI .i64 (σ 32) fun x32 => ref03_Read.l0 K k x0 x1A x1n x1c x7 x31 x32 w) (Eq.mp (by kernel_rfl) h) ?_ ?_
                  · intro σ w h
                    obtain ⟨x0, e0, h⟩ := vI_elim h
                    obtain ⟨x1A, x1n, x1c, e1, h⟩ := vS_elim h
                    obtain ⟨x7, e7, h⟩ := vP_elim h
                    obtain ⟨x31, e31, h⟩ := vI_elim h
                    obtain ⟨x32, e32, h⟩ := vI_elim h
                    exact h
                  · intro k0 σ w h
                    obtain ⟨x0, e0, h⟩ := vI_elim h
                    obtain ⟨x1A, x1n, x1c, e1, h⟩ := vS_elim h
                    obtain ⟨x7, e7, h⟩ := vP_elim h
                    obtain ⟨x31, e31, h⟩ := vI_elim h
                    obtain ⟨x32, e32, h⟩ := vI_elim h
                    refine J.sub ?_ ((((((Sub.base _).upd e0).upd e1).upd e7).upd e31).upd e32)
                    clear e0 e1 e7 e31 e32
                    refine J_seq (fun σ w => vI .i64 (σ 0) fun x0 => vS (σ 1) fun x1A x1n x1c => vP (σ 7) fun x7 => vI .i64 (σ 31) fun x31 => vI .i64 (σ 32) fun x32 => vB (σ 33) fun x33 => ref03_Read.p8 (ref03_Read.l0 K k0) K x0 x1A x1n x1c x7 x31 x32 x33 w) ?_ ?_
                    ·
                      exact sh_sound _ _ _ _ (Eq.mp (by kernel_rfl) h)
                    · intro σ w h
                      obtain ⟨x0, e0, h⟩ := vI_elim h
                      obtain ⟨x1A, x1n, x1c, e1, h⟩ := vS_elim h
                      obtain ⟨x7, e7, h⟩ := vP_elim h
                      obtain ⟨x31, e31, h⟩ := vI_elim h
                      obtain ⟨x32, e32, h⟩ := vI_elim h
                      obtain ⟨x33, e33, h⟩ := vB_elim h
                      refine J.sub ?_ (((((((Sub.base _).upd e0).upd e1).upd e7).upd e31).upd e32).upd e33)
                      clear e0 e1 e7 e31 e32 e33
                      refine J_seq (fun σ w => vI .i64 (σ 0) fun x0 => vS (σ 1) fun x1A x1n x1c => vP (σ 7) fun x7 => vI .i64 (σ 31) fun x31 => vI .i64 (σ 32) fun x32 => ref03_Read.p9 (ref03_Read.l0 K k0) K x0 x1A x1n x1c x7 x31 x32 w) ?_ ?_
                      ·
                        exact sh_sound _ _ _ _ (Eq.mp (by kernel_rfl) h)
                      · intro σ w h
                        obtain ⟨x0, e0, h⟩ := vI_elim h
                        obtain ⟨x1A, x1n, x1c, e1, h⟩ := vS_elim h
                        obtain ⟨x7, e7, h⟩ := vP_elim h
                        obtain ⟨x31, e31, h⟩ := vI_elim h
                        obtain ⟨x32, e32, h⟩ := vI_elim h
                        refine J.sub ?_ ((((((Sub.base _).upd e0).upd e1).upd e7).upd e31).upd e32)
                        clear e0 e1 e7 e31 e32
                        refine J_seq (fun σ w => vI .i64 (σ 0) fun x0 => vS (σ 1) fun x1A x1n x1c => vP (σ 7) fun x7 => vI .i64 (σ 31) fun x31 => vI .i64 (σ 32) fun x32 => ref03_Read.p16 (ref03_Read.l0 K k0) K x0 x1A x1n x1c x7 x31 x32 w) ?_ ?_
                        ·
                          refine J_block ?_
                          refine J_seq (fun σ w => vI .i64 (σ 0) fun x0 => vS (σ 1) fun x1A x1n x1c => vP (σ 7) fun x7 => vI .i64 (σ 8) fun x8 => vI .i64 (σ 31) fun x31 => vI .i64 (σ 32) fun x32 => ref03_Read.p10 (ref03_Read.l0 K k0) K x0 x1A x1n x1c x7 x8 x31 x32 w) ?_ ?_
                          ·
                            exact sh_sound _ _ _ _ (Eq.mp (by kernel_rfl) h)
                          · intro σ w h
                            obtain ⟨x0, e0, h⟩ := vI_elim h
                            obtain ⟨x1A, x1n, x1c, e1, h⟩ := vS_elim h
                            obtain ⟨x7, e7, h⟩ := vP_elim h
                            obtain ⟨x8, e8, h⟩ := vI_elim h
                            obtain ⟨x31, e31, h⟩ := vI_elim h
                            obtain ⟨x32, e32, h⟩ := vI_elim h
                            refine J.sub ?_ (((((((Sub.base _).upd e0).upd e1).upd e7).upd e8).upd e31).upd e32)
                            clear e0 e1 e7 e8 e31 e32
                            refine J_seq (fun σ w => vI .i64 (σ 0) fun x0 => vS (σ 1) fun x1A x1n x1c => vP (σ 7) fun x7 => vI .i64 (σ 8) fun x8 => vI .i64 (σ 9) fun x9 => vI .i64 (σ 31) fun x31 => vI .i64 (σ 32) fun x32 => ref03_Read.p11 (ref03_Read.l0 K k0) K x0 x1A x1n x1c x7 x8 x9 x31 x32 w) ?_ ?_
                            ·
                              exact sh_sound _ _ _ _ (Eq.mp (by kernel_rfl) h)
                            · intro σ w h
                              obtain ⟨x0, e0, h⟩ := vI_elim h
                              obtain ⟨x1A, x1n, x1c, e1, h⟩ := vS_elim h
                              obtain ⟨x7, e7, h⟩ := vP_elim h
                              obtain ⟨x8, e8, h⟩ := vI_elim h
                              obtain ⟨x9, e9, h⟩ := vI_elim h
                              obtain ⟨x31, e31, h⟩ := vI_elim h
                              obtain ⟨x32, e32, h⟩ := vI_elim h
                              refine J.sub ?_ ((((((((Sub.base _).upd e0).upd e1).upd e7).upd e8).upd e9).upd e31).upd e32)
                              clear e0 e1 e7 e8 e9 e31 e32
                              refine J_seq (fun σ w => vI .i64 (σ 0) fun x0 => vS (σ 1) fun x1A x1n x1c => vP (σ 7) fun x7 => vI .i64 (σ 8) fun x8 => vI .i64 (σ 9) fun x9 => vI .i64 (σ 10) fun x10 => vI .i64 (σ 31) fun x31 => vI .i64 (σ 32) fun x32 => ref03_Read.p12 (ref03_Read.l0 K k0) K x0 x1A x1n x1c x7 x8 x9 x10 x31 x32 w) ?_ ?_
                              ·
                                exact sh_sound _ _ _ _ (Eq.mp (by kernel_rfl) h)
                              · intro σ w h
                                obtain ⟨x0, e0, h⟩ := vI_elim h
                                obtain ⟨x1A, x1n, x1c, e1, h⟩ := vS_elim h
                                obtain ⟨x7, e7, h⟩ := vP_elim h
                                obtain ⟨x8, e8, h⟩ := vI_elim h
                                obtain ⟨x9, e9, h⟩ := vI_elim h
                                obtain ⟨x10, e10, h⟩ := vI_elim h
                                obtain ⟨x31, e31, h⟩ := vI_elim h
                                obtain ⟨x32, e32, h⟩ := vI_elim h
                                refine J.sub ?_ (((((((((Sub.base _).upd e0).upd e1).upd e7).upd e8).upd e9).upd e10).upd e31).upd e32)
                                clear e0 e1 e7 e8 e9 e10 e31 e32
                                refine J_block ?_
                                refine J_loop (fun k σ w => vI .i64 (σ 0) fun x0 => vS (σ 1) fun x1A x1n x1c => vP (σ 7) fun x7 => vI .i64 (σ 8) fun x8 => vI .i64 (σ 9) fun x9 => vI .i64 (σ 10) fun x10 => vI .i64 (σ 31) fun x31 => vI .i64 (σ 32) fun x32 => ref03_Read.l1 (ref03_Read.l0 K k0) K k x0 x1A x1n x1c x7 x8 x9 x10 x31 x32 w) (Eq.mp (by kernel_rfl) h) ?_ ?_
                                · intro σ w h
                                  obtain ⟨x0, e0, h⟩ := vI_elim h
                                  obtain ⟨x1A, x1n, x1c, e1, h⟩ := vS_elim h
                                  obtain ⟨x7, e7, h⟩ := vP_elim h
                                  obtain ⟨x8, e8, h⟩ := vI_elim h
                                  obtain ⟨x9, e9, h⟩ := vI_elim h
                                  obtain ⟨x10, e10, h⟩ := vI_elim h
                                  obtain ⟨x31, e31, h⟩ := vI_elim h
                                  obtain ⟨x32, e32, h⟩ := vI_elim h
                                  exact h
                                · intro k1 σ w h
                                  obtain ⟨x0, e0, h⟩ := vI_elim h
                                  obtain ⟨x1A, x1n, x1c, e1, h⟩ := vS_elim h
                                  obtain ⟨x7, e7, h⟩ := vP_elim h
                                  obtain ⟨x8, e8, h⟩ := vI_elim h
                                  obtain ⟨x9, e9, h⟩ := vI_elim h
                                  obtain ⟨x10, e10, h⟩ := vI_elim h
                                  obtain ⟨x31, e31, h⟩ := vI_elim h
                                  obtain ⟨x32, e32, h⟩ := vI_elim h
                                  refine J.sub ?_ (((((((((Sub.base _).upd e0).upd e1).upd e7).upd e8).upd e9).upd e10).upd e31).upd e32)
                                  clear e0 e1 e7 e8 e9 e10 e31 e32
                                  refine J_seq (fun σ w => vI .i64 (σ 0) fun x0 => vS (σ 1) fun x1A x1n x1c => vP (σ 7) fun x7 => vI .i64 (σ 8) fun x8 => vI .i64 (σ 9) fun x9 => vI .i64 (σ 10) fun x10 => vI .i64 (σ 31) fun x31 => vI .i64 (σ 32) fun x32 => ref03_Read.p13 (ref03_Read.l1 (ref03_Read.l0 K k0) K k1) (ref03_Read.l0 K k0) K x0 x1A x1n x1c x7 x8 x9 x10 x31 x32 w) ?_ ?_
                                  ·
                                    exact sh_sound _ _ _ _ (Eq.mp (by kernel_rfl) h)
                                  · intro σ w h
                                    obtain ⟨x0, e0, h⟩ := vI_elim h
                                    obtain ⟨x1A, x1n, x1c, e1, h⟩ := vS_elim h
                                    obtain ⟨x7, e7, h⟩ := vP_elim h
                                    obtain ⟨x8, e8, h⟩ := vI_elim h
                                    obtain ⟨x9, e9, h⟩ := vI_elim h
                                    obtain ⟨x10, e10, h⟩ := vI_elim h
                                    obtain ⟨x31, e31, h⟩ := vI_elim h
                                    obtain ⟨x32, e32, h⟩ := vI_elim h
                                    refine J.sub ?_ (((((((((Sub.base _).upd e0).upd e1).upd e7).upd e8).upd e9).upd e10).upd e31).upd e32)
                                    clear e0 e1 e7 e8 e9 e10 e31 e32
                                    refine J_seq (fun σ w => vI .i64 (σ 0) fun x0 => vS (σ 1) fun x1A x1n x1c => vP (σ 7) fun x7 => vI .i64 (σ 8) fun x8 => vI .i64 (σ 9) fun x9 => vI .i64 (σ 10) fun x10 => vI .i64 (σ 31) fun x31 => vI .i64 (σ 32) fun x32 => ref03_Read.p15 (ref03_Read.l1 (ref03_Read.l0 K k0) K k1) (ref03_Read.l0 K k0) K x0 x1A x1n x1c x7 x8 x9 x10 x31 x32 w) ?_ ?_
                                    ·
                                      refine J_block ?_
                                      refine J_seq (fun σ w => vI .i64 (σ 0) fun x0 => vS (σ 1) fun x1A x1n x1c => vP (σ 7) fun x7 => vI .i64 (σ 8) fun x8 => vI .i64 (σ 9) fun x9 => vI .i64 (σ 10) fun x10 => vI .i64 (σ 31) fun x31 => vI .i64 (σ 32) fun x32 => ref03_Read.p14 (ref03_Read.l1 (ref03_Read.l0 K k0) K k1) (ref03_Read.l0 K k0) K x0 x1A x1n x1c x7 x8 x9 x10 x31 x32 w) ?_ ?_
                                      ·
                                        exact sh_sound _ _ _ _ (Eq.mp (by kernel_rfl) h)
                                      · intro σ w h
                                        obtain ⟨x0, e0, h⟩ := vI_elim h
                                        obtain ⟨x1A, x1n, x1c, e1, h⟩ := vS_elim h
                                        obtain ⟨x7, e7, h⟩ := vP_elim h
                                        obtain ⟨x8, e8, h⟩ := vI_elim h
                                        obtain ⟨x9, e9, h⟩ := vI_elim h
                                        obtain ⟨x10, e10, h⟩ := vI_elim h
                                        obtain ⟨x31, e31, h⟩ := vI_elim h
                                        obtain ⟨x32, e32, h⟩ := vI_elim h
                                        refine J.sub ?_ (((((((((Sub.base _).upd e0).upd e1).upd e7).upd e8).upd e9).upd e10).upd e31).upd e32)
                                        clear e0 e1 e7 e8 e9 e10 e31 e32
                                        exact sh_sound _ _ _ _ (Eq.mp (by kernel_rfl) h)
                                    · intro σ w h
                                      obtain ⟨x0, e0, h⟩ := vI_elim h
                                      obtain ⟨x1A, x1n, x1c, e1, h⟩ := vS_elim h
                                      obtain ⟨x7, e7, h⟩ := vP_elim h
                                      obtain ⟨x8, e8, h⟩ := vI_elim h
                                      obtain ⟨x9, e9, h⟩ := vI_elim h
                                      obtain ⟨x10, e10, h⟩ := vI_elim h
                                      obtain ⟨x31, e31, h⟩ := vI_elim h
                                      obtain ⟨x32, e32, h⟩ := vI_elim h
                                      refine J.sub ?_ (((((((((Sub.base _).upd e0).upd e1).upd e7).upd e8).upd e9).upd e10).upd e31).upd e32)
                                      clear e0 e1 e7 e8 e9 e10 e31 e32
                                      exact sh_sound _ _ _ _ (Eq.mp (by kernel_rfl) h)
                        · intro σ w h
                          obtain ⟨x0, e0, h⟩ := vI_elim h
                          obtain ⟨x1A, x1n, x1c, e1, h⟩ := vS_elim h
                          obtain ⟨x7, e7, h⟩ := vP_elim h
                          obtain ⟨x31, e31, h⟩ := vI_elim h
                          obtain ⟨x32, e32, h⟩ := vI_elim h
                          refine J.sub ?_ ((((((Sub.base _).upd e0).upd e1).upd e7).upd e31).upd e32)
                          clear e0 e1 e7 e31 e32
                          exact sh_sound _ _ _ _ (Eq.mp (by kernel_rfl) h)
              · intro σ w h
                obtain ⟨x7, e7, h⟩ := vP_elim h
                refine J.sub ?_ ((Sub.base _).upd e7)
                clear e7
                exact sh_sound _ _ _ _ (Eq.mp (by kernel_rfl) h)

/-! ### hayloft/hayloftref03.New: function 30 -/
abbrev ref03_New.F (q0 : Int) (K : Value → World → Prop) (w : World) : Prop :=
  (0 ≤ (imax 0 (imin q0 65536)) ∧ (imax 0 (imin q0 65536)) ≤ (imax 0 (imin q0 65536)) ∧ (1 : Int) * (imax 0 (imin q0 65536)) ≤ 281474976710656 ∧ (imax 0 (imin q0 65536)) ≤ 9223372036854775807) ∧ wlet (w.alloc (.cells (madeCells #[.bool false] ((imax 0 (imin q0 65536)).toNat * 1)) 4)) fun w1 => wlet (w1.alloc (.cells #[.slice (some ⟨w.heap.size, 0, none⟩) ((imax 0 (imin q0 65536)).toNat) ((imax 0 (imin q0 65536)).toNat)] 39)) fun w2 => K (.pointer (some (⟨w1.heap.size, 0, none⟩))) w2
theorem ref03_New.ok {q0 : Int} {K : Value → World → Prop} {w : World} (h : ref03_New.F q0 K w) :
    CallsE Tryd.prog 30 #[.int .i64 q0] w K := by
  refine calls_of_J (n := 9) (rs := [.tmp 2]) Tryd.func30 rfl rfl rfl rfl ?_
  exact sh_sound _ _ _ _ (Eq.mp (by kernel_rfl) h)

/-! ### (*hayloft/hayloftref03.Set).Put: function 31 -/
abbrev ref03_Set_Put.p2 (K : Value → World → Prop) (x0 : Option Addr) (x1 : Int) (x2 : Bool) (w : World) : Prop :=
  ∃ (a1 : Addr), x0 = some a1 ∧ ∃ (A2 : Option Addr) (m3 : Nat) (c4 : Nat), w.cell? a1 = some (.slice A2 m3 c4) ∧ (0 ≤ x1 ∧ x1 < ((m3 : Nat) : Int)) ∧ ∃ (a5 : Addr), A2 = some a5 ∧ canStore w (a5.add x1.toNat) ∧ wlet (w.setCell (a5.add x1.toNat) (.bool x2)) fun w6 => K (.bool true) w6
abbrev ref03_Set_Put.p1 (K : Value → World → Prop) (x0 : Option Addr) (x1 : Int) (x2 : Bool) (x28 : Bool) (w : World) : Prop :=
  condP x28 (K (.bool false) w) (ref03_Set_Put.p2 K x0 x1 x2 w)
abbrev ref03_Set_Put.p0 (K : Value → World → Prop) (x0 : Option Addr) (x1 : Int) (x2 : Bool) (w : World) : Prop :=
  condP (decide (x1 < (0 : Int))) (ref03_Set_Put.p1 K x0 x1 x2 true w) (∃ (a7 : Addr), x0 = some a7 ∧ ∃ (A8 : Option Addr) (m9 : Nat) (c10 : Nat), w.cell? a7 = some (.slice A8 m9 c10) ∧ condP (decide (((m9 : Nat) : Int) ≤ x1)) (ref03_Set_Put.p1 K x0 x1 x2 true w) (∃ (a11 : Addr), x0 = some a11 ∧ ∃ (A12 : Option Addr) (m13 : Nat) (c14 : Nat), w.cell? a11 = some (.slice A12 m13 c14) ∧ (0 ≤ x1 ∧ x1 < ((m13 : Nat) : Int)) ∧ ∃ (a15 : Addr), A12 = some a15 ∧ ∃ (b16 : Bool), w.cell? (a15.add x1.toNat) = some (.bool b16) ∧ ref03_Set_Put.p1 K x0 x1 x2 (b16 == x2) w))
abbrev ref03_Set_Put.F (q0 : Option Addr) (q1 : Int) (q2 : Bool) (K : Value → World → Prop) (w : World) : Prop :=
  ref03_Set_Put.p0 K q0 q1 q2 w
theorem ref03_Set_Put.ok {q0 : Option Addr} {q1 : Int} {q2 : Bool} {K : Value → World → Prop} {w : World} (h : ref03_Set_Put.F q0 q1 q2 K w) :
    CallsE Tryd.prog 31 #[.pointer q0, .int .i64 q1, .bool q2] w K := by
  refine calls_of_J (n := 36) (rs := [.tmp 6]) Tryd.func31 rfl rfl rfl rfl ?_
  refine J_seq (fun σ w => vP (σ 0) fun x0 => vI .i64 (σ 1) fun x1 => vB (σ 2) fun x2 => ref03_Set_Put.p0 K x0 x1 x2 w) ?_ ?_
  ·
    exact sh_sound _ _ _ _ (Eq.mp (by kernel_rfl) h)
  · intro σ w h
    obtain ⟨x0, e0, h⟩ := vP_elim h
    obtain ⟨x1, e1, h⟩ := vI_elim h
    obtain ⟨x2, e2, h⟩ := vB_elim h
    refine J.sub ?_ ((((Sub.base _).upd e0).upd e1).upd e2)
    clear e0 e1 e2
    refine J_seq (fun σ w => vP (σ 0) fun x0 => vI .i64 (σ 1) fun x1 => vB (σ 2) fun x2 => ref03_Set_Put.p2 K x0 x1 x2 w) ?_ ?_
    ·
      refine J_seq (fun σ w => vP (σ 0) fun x0 => vI .i64 (σ 1) fun x1 => vB (σ 2) fun x2 => vB (σ 28) fun x28 => ref03_Set_Put.p1 K x0 x1 x2 x28 w) ?_ ?_
      ·
        exact sh_sound _ _ _ _ (Eq.mp (by kernel_rfl) h)
      · intro σ w h
        obtain ⟨x0, e0, h⟩ := vP_elim h
        obtain ⟨x1, e1, h⟩ := vI_elim h
        obtain ⟨x2, e2, h⟩ := vB_elim h
        obtain ⟨x28, e28, h⟩ := vB_elim h
        refine J.sub ?_ (((((Sub.base _).upd e0).upd e1).upd e2).upd e28)
        clear e0 e1 e2 e28
        exact sh_sound _ _ _ _ (Eq.mp (by kernel_rfl) h)
    · intro σ w h
      obtain ⟨x0, e0, h⟩ := vP_elim h
      obtain ⟨x1, e1, h⟩ := vI_elim h
      obtain ⟨x2, e2, h⟩ := vB_elim h
      refine J.sub ?_ ((((Sub.base _).upd e0).upd e1).upd e2)
      clear e0 e1 e2
      exact sh_sound _ _ _ _ (Eq.mp (by kernel_rfl) h)

/-! ### (*hayloft/hayloftref03.Set).Next: function 32 -/
abbrev ref03_Set_Next.p2 (K : Value → World → Prop) (w : World) : Prop :=
  K (.int .i64 (-1)) w
abbrev ref03_Set_Next.b0 (L0 : Option Addr → Bool → Int → World → Prop) (K : Value → World → Prop) (x0 : Option Addr) (x2 : Bool) (x7 : Int) (w : World) : Prop :=
  ∃ (a1 : Addr), x0 = some a1 ∧ ∃ (A2 : Option Addr) (m3 : Nat) (c4 : Nat), w.cell? a1 = some (.slice A2 m3 c4) ∧ condP (decide (x7 < ((m3 : Nat) : Int))) (∃ (a5 : Addr), x0 = some a5 ∧ ∃ (A6 : Option Addr) (m7 : Nat) (c8 : Nat), w.cell? a5 = some (.slice A6 m7 c8) ∧ (0 ≤ x7 ∧ x7 < ((m7 : Nat) : Int)) ∧ ∃ (a9 : Addr), A6 = some a9 ∧ ∃ (b10 : Bool), w.cell? (a9.add x7.toNat) = some (.bool b10) ∧ condP (b10 == x2) (K (.int .i64 x7) w) (L0 x0 x2 (IntKind.wrap .i64 (x7 + (1 : Int))) w)) (ref03_Set_Next.p2 K w)
def ref03_Set_Next.l0 (K : Value → World → Prop) (k : Nat) : Option Addr → Bool → Int → World → Prop :=
  Nat.rec (motive := fun _ => Option Addr → Bool → Int → World → Prop) (fun _ _ _ _ => False) (fun _ ih => ref03_Set_Next.b0 ih K) k
theorem ref03_Set_Next.l0_succ (K : Value → World → Prop) (k : Nat) (x0 : Option Addr) (x2 : Bool) (x7 : Int) (w : World) : ref03_Set_Next.l0 K (k + 1) x0 x2 x7 w = ref03_Set_Next.b0 (ref03_Set_Next.l0 K k) K x0 x2 x7 w := rfl
abbrev ref03_Set_Next.p1 (K : Value → World → Prop) (x0 : Option Addr) (x2 : Bool) (x7 : Int) (w : World) : Prop :=
  ∃ k, ref03_Set_Next.l0 K k x0 x2 x7 w
abbrev ref03_Set_Next.p0 (K : Value → World → Prop) (x0 : Option Addr) (x1 : Int) (x2 : Bool) (w : World) : Prop :=
  ref03_Set_Next.p1 K x0 x2 (imax 0 x1) w
abbrev ref03_Set_Next.F (q0 : Option Addr) (q1 : Int) (q2 : Bool) (K : Value → World → Prop) (w : World) : Prop :=
  ref03_Set_Next.p0 K q0 q1 q2 w
theorem ref03_Set_Next.ok {q0 : Option Addr} {q1 : Int} {q2 : Bool} {K : Value → World → Prop} {w : World} (h : ref03_Set_Next.F q0 q1 q2 K w) :
    CallsE Tryd.prog 32 #[.pointer q0, .int .i64 q1, .bool q2] w K := by
  refine calls_of_J (n := 29) (rs := [.tmp 6]) Tryd.func32 rfl rfl rfl rfl ?_
  refine J_seq (fun σ w => vP (σ 0) fun x0 => vI .i64 (σ 1) fun x1 => vB (σ 2) fun x2 => ref03_Set_Next.p0 K x0 x1 x2 w) ?_ ?_
  ·
    exact sh_sound _ _ _ _ (Eq.mp (by kernel_rfl) h)
  · intro σ w h
    obtain ⟨x0, e0, h⟩ := vP_elim h
    obtain ⟨x1, e1, h⟩ := vI_elim h
    obtain ⟨x2, e2, h⟩ := vB_elim h
    refine J.sub ?_ ((((Sub.base _).upd e0).upd e1).upd e2)
    clear e0 e1 e2
    refine J_seq (fun σ w => ref03_Set_Next.p2 K w) ?_ ?_
    ·
      refine J_seq (fun σ w => vP (σ 0) fun x0 => vB (σ 2) fun x2 => vI .i64 (σ 7) fun x7 => ref03_Set_Next.p1 K x0 x2 x7 w) ?_ ?_
      ·
        exact sh_sound _ _ _ _ (Eq.mp (by kernel_rfl) h)
      · intro σ w h
        obtain ⟨x0, e0, h⟩ := vP_elim h
        obtain ⟨x2, e2, h⟩ := vB_elim h
        obtain ⟨x7, e7, h⟩ := vI_elim h
        refine J.sub ?_ ((((Sub.base _).upd e0).upd e2).upd e7)
        clear e0 e2 e7
        refine J_block ?_
        refine J_loop (fun k σ w => vP (σ 0) fun x0 => vB (σ 2) fun x2 => vI .i64 (σ 7) fun x7 => ref03_Set_Next.l0 K k x0 x2 x7 w) (Eq.mp (by kernel_rfl) h) ?_ ?_
        · intro σ w h
          obtain ⟨x0, e0, h⟩ := vP_elim h
          obtain ⟨x2, e2, h⟩ := vB_elim h
          obtain ⟨x7, e7, h⟩ := vI_elim h
          exact h
        · intro k0 σ w h
          obtain ⟨x0, e0, h⟩ := vP_elim h
          obtain ⟨x2, e2, h⟩ := vB_elim h
          obtain ⟨x7, e7, h⟩ := vI_elim h
          refine J.sub ?_ ((((Sub.base _).upd e0).upd e2).upd e7)
          clear e0 e2 e7
          exact sh_sound _ _ _ _ (Eq.mp (by kernel_rfl) h)
    · intro σ w h
      refine J.sub ?_ (Sub.base _)
      exact sh_sound _ _ _ _ (Eq.mp (by kernel_rfl) h)

/-! ### (*hayloft/set.Set).next: function 33 -/
abbrev set_Set_next.p2 (K : Value → World → Prop) (w : World) : Prop :=
  K (.int .i64 (-1)) w
abbrev set_Set_next.b0 (L0 : Option Addr → Int → Int → World → Prop) (K : Value → World → Prop) (x0 : Option Addr) (x1 : Int) (x2 : Int) (w : World) : Prop :=
  CallsE Tryd.prog 12 #[.pointer x0] w (fun v1 w2 => ∃ (n3 : Int), v1 = .int .i64 n3 ∧ condP (decide (x1 < n3)) (∃ (a4 : Addr), x0 = some a4 ∧ ∃ (A5 : Option Addr) (m6 : Nat) (c7 : Nat), w2.cell? (a4.add 1) = some (.slice A5 m6 c7) ∧ (64 : Int) ≠ 0 ∧ (0 ≤ (IntKind.wrap .i64 (Int.tdiv x1 64)) ∧ (IntKind.wrap .i64 (Int.tdiv x1 64)) < ((m6 : Nat) : Int)) ∧ ∃ (a8 : Addr), A5 = some a8 ∧ ∃ (n9 : Int), w2.cell? (a8.add ((IntKind.wrap .i64 (Int.tdiv x1 64)).toNat)) = some (.int .u64 n9) ∧ (64 : Int) ≠ 0 ∧ 0 ≤ (Int.tmod x1 64) ∧ condP ((ishr .u64 (ibits .xor .u64 n9 x2) (Int.tmod x1 64)) != (0 : Int)) (CallsE Tryd.prog 35 #[.int .u64 (ishr .u64 (ibits .xor .u64 n9 x2) (Int.tmod x1 64))] w2 (fun v10 w11 => ∃ (n12 : Int), v10 = .int .i64 n12 ∧ ∃ (a13 : Addr), x0 = some a13 ∧ ∃ (n14 : Int), w11.cell? a13 = some (.int .i64 n14) ∧ condP (decide ((IntKind.wrap .i64 (x1 + n12)) < n14)) (K (.int .i64 (IntKind.wrap .i64 (x1 + n12))) w11) (K (.int .i64 (-1)) w11))) ((64 : Int) ≠ 0 ∧ L0 x0 (IntKind.wrap .i64 ((IntKind.wrap .i64 ((IntKind.wrap .i64 (Int.tdiv x1 64)) * (64 : Int))) + (64 : Int))) x2 w2)) (set_Set_next.p2 K w2))
def set_Set_next.l0 (K : Value → World → Prop) (k : Nat) : Option Addr → Int → Int → World → Prop :=
  Nat.rec (motive := fun _ => Option Addr → Int → Int → World → Prop) (fun _ _ _ _ => False) (fun _ ih => set_Set_next.b0 ih K) k
theorem set_Set_next.l0_succ (K : Value → World → Prop) (k : Nat) (x0 : Option Addr) (x1 : Int) (x2 : Int) (w : World) : set_Set_next.l0 K (k + 1) x0 x1 x2 w = set_Set_next.b0 (set_Set_next.l0 K k) K x0 x1 x2 w := rfl
abbrev set_Set_next.p1 (K : Value → World → Prop) (x0 : Option Addr) (x1 : Int) (x2 : Int) (w : World) : Prop :=
  ∃ k, set_Set_next.l0 K k x0 x1 x2 w
abbrev set_Set_next.p0 (K : Value → World → Prop) (x0 : Option Addr) (x1 : Int) (x2 : Int) (w : World) : Prop :=
  set_Set_next.p1 K x0 (imax 0 x1) x2 w
abbrev set_Set_next.F (q0 : Option Addr) (q1 : Int) (q2 : Int) (K : Value → World → Prop) (w : World) : Prop :=
  set_Set_next.p0 K q0 q1 q2 w
theorem set_Set_next.ok {q0 : Option Addr} {q1 : Int} {q2 : Int} {K : Value → World → Prop} {w : World} (h : set_Set_next.F q0 q1 q2 K w) :
    CallsE Tryd.prog 33 #[.pointer q0, .int .i64 q1, .int .u64 q2] w K := by
  refine calls_of_J (n := 45) (rs := [.tmp 6]) Tryd.func33 rfl rfl rfl rfl ?_
  refine J_seq (fun σ w => vP (σ 0) fun x0 => vI .i64 (σ 1) fun x1 => vI .u64 (σ 2) fun x2 => set_Set_next.p0 K x0 x1 x2 w) ?_ ?_
  ·
    exact sh_sound _ _ _ _ (Eq.mp (by kernel_rfl) h)
  · intro σ w h
    obtain ⟨x0, e0, h⟩ := vP_elim h
    obtain ⟨x1, e1, h⟩ := vI_elim h
    obtain ⟨x2, e2, h⟩ := vI_elim h
    refine J.sub ?_ ((((Sub.base _).upd e0).upd e1).upd e2)
    clear e0 e1 e2
    refine J_seq (fun σ w => vP (σ 0) fun x0 => vI .i64 (σ 1) fun x1 => vI .u64 (σ 2) fun x2 => set_Set_next.p1 K x0 x1 x2 w) ?_ ?_
    ·
      exact sh_sound _ _ _ _ (Eq.mp (by kernel_rfl) h)
    · intro σ w h
      obtain ⟨x0, e0, h⟩ := vP_elim h
      obtain ⟨x1, e1, h⟩ := vI_elim h
      obtain ⟨x2, e2, h⟩ := vI_elim h
      refine J.sub ?_ ((((Sub.base _).upd e0).upd e1).upd e2)
      clear e0 e1 e2
      refine J_seq (fun σ w => set_Set_next.p2 K w) ?_ ?_
      ·
        refine J_block ?_
        refine J_loop (fun k σ w => vP (σ 0) fun x0 => vI .i64 (σ 1) fun x1 => vI .u64 (σ 2) fun x2 => set_Set_next.l0 K k x0 x1 x2 w) (Eq.mp (by kernel_rfl) h) ?_ ?_
        · intro σ w h
          obtain ⟨x0, e0, h⟩ := vP_elim h
          obtain ⟨x1, e1, h⟩ := vI_elim h
          obtain ⟨x2, e2, h⟩ := vI_elim h
          exact h
        · intro k0 σ w h
          obtain ⟨x0, e0, h⟩ := vP_elim h
          obtain ⟨x1, e1, h⟩ := vI_elim h
          obtain ⟨x2, e2, h⟩ := vI_elim h
          refine J.sub ?_ ((((Sub.base _).upd e0).upd e1).upd e2)
          clear e0 e1 e2
          exact sh_sound _ _ _ _ (Eq.mp (by kernel_rfl) h)
      · intro σ w h
        refine J.sub ?_ (Sub.base _)
        exact sh_sound _ _ _ _ (Eq.mp (by kernel_rfl) h)

/-! ### math/bits.OnesCount64: function 34 -/
abbrev math_bits_OnesCount64.F (q0 : Int) (K : Value → World → Prop) (w : World) : Prop :=
  0 ≤ (1 : Int) ∧ 0 ≤ (2 : Int) ∧ 0 ≤ (4 : Int) ∧ 0 ≤ (8 : Int) ∧ 0 ≤ (16 : Int) ∧ 0 ≤ (32 : Int) ∧ K (.int .i64 (ibits .and .i64 (IntKind.wrap .i64 (IntKind.wrap .u64 ((IntKind.wrap .u64 ((IntKind.wrap .u64 ((ibits .and .u64 (IntKind.wrap .u64 ((ishr .u64 (IntKind.wrap .u64 ((ibits .and .u64 (ishr .u64 (IntKind.wrap .u64 ((ibits .and .u64 (ishr .u64 q0 1) 6148914691236517205) + (ibits .and .u64 q0 6148914691236517205))) 2) 3689348814741910323) + (ibits .and .u64 (IntKind.wrap .u64 ((ibits .and .u64 (ishr .u64 q0 1) 6148914691236517205) + (ibits .and .u64 q0 6148914691236517205))) 3689348814741910323))) 4) + (IntKind.wrap .u64 ((ibits .and .u64 (ishr .u64 (IntKind.wrap .u64 ((ibits .and .u64 (ishr .u64 q0 1) 6148914691236517205) + (ibits .and .u64 q0 6148914691236517205))) 2) 3689348814741910323) + (ibits .and .u64 (IntKind.wrap .u64 ((ibits .and .u64 (ishr .u64 q0 1) 6148914691236517205) + (ibits .and .u64 q0 6148914691236517205))) 3689348814741910323))))) 1085102592571150095) + (ishr .u64 (ibits .and .u64 (IntKind.wrap .u64 ((ishr .u64 (IntKind.wrap .u64 ((ibits .and .u64 (ishr .u64 (IntKind.wrap .u64 ((ibits .and .u64 (ishr .u64 q0 1) 6148914691236517205) + (ibits .and .u64 q0 6148914691236517205))) 2) 3689348814741910323) + (ibits .and .u64 (IntKind.wrap .u64 ((ibits .and .u64 (ishr .u64 q0 1) 6148914691236517205) + (ibits .and .u64 q0 6148914691236517205))) 3689348814741910323))) 4) + (IntKind.wrap .u64 ((ibits .and .u64 (ishr .u64 (IntKind.wrap .u64 ((ibits .and .u64 (ishr .u64 q0 1) 6148914691236517205) + (ibits .and .u64 q0 6148914691236517205))) 2) 3689348814741910323) + (ibits .and .u64 (IntKind.wrap .u64 ((ibits .and .u64 (ishr .u64 q0 1) 6148914691236517205) + (ibits .and .u64 q0 6148914691236517205))) 3689348814741910323))))) 1085102592571150095) 8))) + (ishr .u64 (IntKind.wrap .u64 ((ibits .and .u64 (IntKind.wrap .u64 ((ishr .u64 (IntKind.wrap .u64 ((ibits .and .u64 (ishr .u64 (IntKind.wrap .u64 ((ibits .and .u64 (ishr .u64 q0 1) 6148914691236517205) + (ibits .and .u64 q0 6148914691236517205))) 2) 3689348814741910323) + (ibits .and .u64 (IntKind.wrap .u64 ((ibits .and .u64 (ishr .u64 q0 1) 6148914691236517205) + (ibits .and .u64 q0 6148914691236517205))) 3689348814741910323))) 4) + (IntKind.wrap .u64 ((ibits .and .u64 (ishr .u64 (IntKind.wrap .u64 ((ibits .and .u64 (ishr .u64 q0 1) 6148914691236517205) + (ibits .and .u64 q0 6148914691236517205))) 2) 3689348814741910323) + (ibits .and .u64 (IntKind.wrap .u64 ((ibits .and .u64 (ishr .u64 q0 1) 6148914691236517205) + (ibits .and .u64 q0 6148914691236517205))) 3689348814741910323))))) 1085102592571150095) + (ishr .u64 (ibits .and .u64 (IntKind.wrap .u64 ((ishr .u64 (IntKind.wrap .u64 ((ibits .and .u64 (ishr .u64 (IntKind.wrap .u64 ((ibits .and .u64 (ishr .u64 q0 1) 6148914691236517205) + (ibits .and .u64 q0 6148914691236517205))) 2) 3689348814741910323) + (ibits .and .u64 (IntKind.wrap .u64 ((ibits .and .u64 (ishr .u64 q0 1) 6148914691236517205) + (ibits .and .u64 q0 6148914691236517205))) 3689348814741910323))) 4) + (IntKind.wrap .u64 ((ibits .and .u64 (ishr .u64 (IntKind.wrap .u64 ((ibits .and .u64 (ishr .u64 q0 1) 6148914691236517205) + (ibits .and .u64 q0 6148914691236517205))) 2) 3689348814741910323) + (ibits .and .u64 (IntKind.wrap .u64 ((ibits .and .u64 (ishr .u64 q0 1) 6148914691236517205) + (ibits .and .u64 q0 6148914691236517205))) 3689348814741910323))))) 1085102592571150095) 8))) 16))) + (ishr .u64 (IntKind.wrap .u64 ((IntKind.wrap .u64 ((ibits .and .u64 (IntKind.wrap .u64 ((ishr .u64 (IntKind.wrap .u64 ((ibits .and .u64 (ishr .u64 (IntKind.wrap .u64 ((ibits .and .u64 (ishr .u64 q0 1) 6148914691236517205) + (ibits .and .u64 q0 6148914691236517205))) 2) 3689348814741910323) + (ibits .and .u64 (IntKind.wrap .u64 ((ibits .and .u64 (ishr .u64 q0 1) 6148914691236517205) + (ibits .and .u64 q0 6148914691236517205))) 3689348814741910323))) 4) + (IntKind.wrap .u64 ((ibits .and .u64 (ishr .u64 (IntKind.wrap .u64 ((ibits .and .u64 (ishr .u64 q0 1) 6148914691236517205) + (ibits .and .u64 q0 6148914691236517205))) 2) 3689348814741910323) + (ibits .and .u64 (IntKind.wrap .u64 ((ibits .and .u64 (ishr .u64 q0 1) 6148914691236517205) + (ibits .and .u64 q0 6148914691236517205))) 3689348814741910323))))) 1085102592571150095) + (ishr .u64 (ibits .and .u64 (IntKind.wrap .u64 ((ishr .u64 (IntKind.wrap .u64 ((ibits .and .u64 (ishr .u64 (IntKind.wrap .u64 ((ibits .and .u64 (ishr .u64 q0 1) 6148914691236517205) + (ibits .and .u64 q0 6148914691236517205))) 2) 3689348814741910323) + (ibits .and .u64 (IntKind.wrap .u64 ((ibits .and .u64 (ishr .u64 q0 1) 6148914691236517205) + (ibits .and .u64 q0 6148914691236517205))) 3689348814741910323))) 4) + (IntKind.wrap .u64 ((ibits .and .u64 (ishr .u64 (IntKind.wrap .u64 ((ibits .and .u64 (ishr .u64 q0 1) 6148914691236517205) + (ibits .and .u64 q0 6148914691236517205))) 2) 3689348814741910323) + (ibits .and .u64 (IntKind.wrap .u64 ((ibits .and .u64 (ishr .u64 q0 1) 6148914691236517205) + (ibits .and .u64 q0 6148914691236517205))) 3689348814741910323))))) 1085102592571150095) 8))) + (ishr .u64 (IntKind.wrap .u64 ((ibits .and .u64 (IntKind.wrap .u64 ((ishr .u64 (IntKind.wrap .u64 ((ibits .and .u64 (ishr .u64 (IntKind.wrap .u64 ((ibits .and .u64 (ishr .u64 q0 1) 6148914691236517205) + (ibits .and .u64 q0 6148914691236517205))) 2) 3689348814741910323) + (ibits .and .u64 (IntKind.wrap .u64 ((ibits .and .u64 (ishr .u64 q0 1) 6148914691236517205) + (ibits .and .u64 q0 6148914691236517205))) 3689348814741910323))) 4) + (IntKind.wrap .u64 ((ibits .and .u64 (ishr .u64 (IntKind.wrap .u64 ((ibits .and .u64 (ishr .u64 q0 1) 6148914691236517205) + (ibits .and .u64 q0 6148914691236517205))) 2) 3689348814741910323) + (ibits .and .u64 (IntKind.wrap .u64 ((ibits .and .u64 (ishr .u64 q0 1) 6148914691236517205) + (ibits .and .u64 q0 6148914691236517205))) 3689348814741910323))))) 1085102592571150095) + (ishr .u64 (ibits .and .u64 (IntKind.wrap .u64 ((ishr .u64 (IntKind.wrap .u64 ((ibits .and .u64 (ishr .u64 (IntKind.wrap .u64 ((ibits .and .u64 (ishr .u64 q0 1) 6148914691236517205) + (ibits .and .u64 q0 6148914691236517205))) 2) 3689348814741910323) + (ibits .and .u64 (IntKind.wrap .u64 ((ibits .and .u64 (ishr .u64 q0 1) 6148914691236517205) + (ibits .and .u64 q0 6148914691236517205))) 3689348814741910323))) 4) + (IntKind.wrap .u64 ((ibits .and .u64 (ishr .u64 (IntKind.wrap .u64 ((ibits .and .u64 (ishr .u64 q0 1) 6148914691236517205) + (ibits .and .u64 q0 6148914691236517205))) 2) 3689348814741910323) + (ibits .and .u64 (IntKind.wrap .u64 ((ibits .and .u64 (ishr .u64 q0 1) 6148914691236517205) + (ibits .and .u64 q0 6148914691236517205))) 3689348814741910323))))) 1085102592571150095) 8))) 16))) 32)))) 127)) w
theorem math_bits_OnesCount64.ok {q0 : Int} {K : Value → World → Prop} {w : World} (h : math_bits_OnesCount64.F q0 K w) :
    CallsE Tryd.prog 34 #[.int .u64 q0] w K := by
  refine calls_of_J (n := 35) (rs := [.tmp 2]) Tryd.func34 rfl rfl rfl rfl ?_
  exact sh_sound _ _ _ _ (Eq.mp (by kernel_rfl) h)

/-! ### math/bits.TrailingZeros64: function 35 -/
abbrev math_bits_TrailingZeros64.F (q0 : Int) (K : Value → World → Prop) (w : World) : Prop :=
  condP (q0 == (0 : Int)) (K (.int .i64 64) w) (0 ≤ (58 : Int) ∧ (0 ≤ (ishr .u64 (IntKind.wrap .u64 ((ibits .and .u64 q0 (IntKind.wrap .u64 (0 - q0))) * (285870213051353865 : Int))) 58) ∧ (ishr .u64 (IntKind.wrap .u64 ((ibits .and .u64 q0 (IntKind.wrap .u64 (0 - q0))) * (285870213051353865 : Int))) 58) < ((64 : Nat) : Int)) ∧ ∃ (n1 : Int), w.cell? ((⟨0, 0, none⟩ : Addr).add (idxN (ishr .u64 (IntKind.wrap .u64 ((ibits .and .u64 q0 (IntKind.wrap .u64 (0 - q0))) * (285870213051353865 : Int))) 58) 1)) = some (.int .u8 n1) ∧ K (.int .i64 (IntKind.wrap .i64 n1)) w)
theorem math_bits_TrailingZeros64.ok {q0 : Int} {K : Value → World → Prop} {w : World} (h : math_bits_TrailingZeros64.F q0 K w) :
    CallsE Tryd.prog 35 #[.int .u64 q0] w K := by
  refine calls_of_J (n := 14) (rs := [.tmp 2]) Tryd.func35 rfl rfl rfl rfl ?_
  exact sh_sound _ _ _ _ (Eq.mp (by kernel_rfl) h)

end Go.Proofs.YtebnmecioifijaaDoor.F
