/-
  Printed by a program: for each Go function a proposition that says what it comes to, and the proof that the code comes to it. No condition beyond what each theorem states.
-/
import Derived.Test.YtfigojigigkdmaaProg
import Derived.Test.YtfigojigigkdmaaSh
set_option linter.unusedVariables false
set_option maxRecDepth 100000
namespace Go.Proofs.Ytfigojigigkdmaa.F
open Go Go.RowKit Go.Proofs.Ytfigojigigkdmaa Go.Proofs.Ytfigojigigkdmaa.Sh

noncomputable abbrev Pg : Program := Try.prog
abbrev law16_RelocApplies.N : FuncId := 3
abbrev law16_RelocBack.N : FuncId := 4
abbrev law16_RelocElse.N : FuncId := 5
abbrev law16_RelocWrites.N : FuncId := 6
abbrev law16_RelocReads.N : FuncId := 7
abbrev law16_RelocOne.N : FuncId := 8
abbrev law16_alive.N : FuncId := 9
abbrev ref01_Copy.N : FuncId := 10
abbrev reloc_Apply.N : FuncId := 11
abbrev ref16_Apply.N : FuncId := 12
abbrev ref01_Same.N : FuncId := 13
abbrev ref01_Ints.N : FuncId := 14
abbrev reloc_Right.N : FuncId := 15
abbrev num_Get.N : FuncId := 16
abbrev reloc_Bytes.N : FuncId := 17
abbrev ref16_Bytes.N : FuncId := 18
abbrev ref16_Right.N : FuncId := 19
abbrev num_Open.N : FuncId := 20
abbrev reloc_Read.N : FuncId := 21
abbrev num_Reader_Err.N : FuncId := 22
abbrev num_Reader_Left.N : FuncId := 23
abbrev ref16_Read.N : FuncId := 24
abbrev ref01_Reader_Rest.N : FuncId := 25
abbrev num_Put.N : FuncId := 26
abbrev arena_Good.N : FuncId := 27
abbrev ref08_Good.N : FuncId := 28
abbrev ref01_Get.N : FuncId := 29
abbrev ref01_Put.N : FuncId := 30
abbrev num_Var.N : FuncId := 31
abbrev ref01_Var.N : FuncId := 32
abbrev num_Reader_Upto.N : FuncId := 33
abbrev num_Reader_Fail.N : FuncId := 34
abbrev ref01_Reader_Upto.N : FuncId := 35
abbrev ref01_Reader_Fail.N : FuncId := 36
abbrev num_clamp.N : FuncId := 37
abbrev ref01_Width.N : FuncId := 38
abbrev num_Reader_Var.N : FuncId := 39
abbrev ref01_Reader_Var.N : FuncId := 40
abbrev api_Errno_Error.N : FuncId := 56
abbrev ref01_Reader_End.N : FuncId := 57
abbrev Ty.int64 : TypeId := 2
abbrev Ty.int : TypeId := 3
abbrev Ty.bool : TypeId := 4
abbrev Ty.uint8 : TypeId := 5
abbrev Ty.abi_BoundsErrorCode : TypeId := 6
abbrev Ty.runtime_boundsError : TypeId := 8
abbrev Ty.string : TypeId := 9
abbrev Ty.runtime_errorString : TypeId := 10
abbrev Ty.runtime_plainError : TypeId := 11
abbrev Ty.uintptr : TypeId := 12
abbrev Ty.runtime_errorAddressString : TypeId := 14
abbrev Ty.p_runtime_TypeAssertionError : TypeId := 15
abbrev Ty.p_runtime_PanicNilError : TypeId := 16
abbrev Ty.p_abi_Type : TypeId := 17
abbrev Ty.maps_unhashableTypeError : TypeId := 19
abbrev Ty.int32 : TypeId := 21
abbrev Ty.sl_uint8 : TypeId := 22
abbrev Ty.sl_int : TypeId := 23
abbrev Ty.law16_Bases : TypeId := 25
abbrev Ty.api_Errno : TypeId := 28
abbrev Ty.uint32 : TypeId := 36
abbrev Ty.a3_uint32 : TypeId := 37
abbrev Ty.sl_bool : TypeId := 40
abbrev Ty.uint64 : TypeId := 41
abbrev Ty.p_num_Reader : TypeId := 45
abbrev Ty.p_ref01_Reader : TypeId := 51
abbrev Ty.ref01_Reader : TypeId := 53
abbrev Ty.num_Reader : TypeId := 60
abbrev Ty.a8_uint8 : TypeId := 64
abbrev Ty.uint : TypeId := 66
abbrev Ty.runtime_TypeAssertionError : TypeId := 70
abbrev Ty.a0_p_runtime_PanicNilError : TypeId := 71
abbrev Ty.runtime_PanicNilError : TypeId := 73
abbrev Ty.abi_TFlag : TypeId := 74
abbrev Ty.abi_Kind : TypeId := 75
abbrev Ty.p_uint8 : TypeId := 77
abbrev Ty.abi_NameOff : TypeId := 78
abbrev Ty.abi_TypeOff : TypeId := 79
abbrev Ty.abi_Type : TypeId := 81
abbrev Ty.unsafe_Pointer : TypeId := 82

/-! ### hayloft/hayloftlaw16.RelocApplies: function 3 -/
abbrev law16_RelocApplies.p10 (K : Value → World → Prop) (x6 : Bool) (w : World) : Prop :=
  K (.bool x6) w
abbrev law16_RelocApplies.p9 (K : Value → World → Prop) (x0A : Option Addr) (x0n : Nat) (x0c : Nat) (x1A : Option Addr) (x1n : Nat) (x1c : Nat) (x7A : Option Addr) (x7n : Nat) (x7c : Nat) (x8A : Option Addr) (x8n : Nat) (x8c : Nat) (w : World) : Prop :=
  CallsE Try.prog 13 #[.slice x7A x7n x7c, .slice x0A x0n x0c] w (fun v38 w39 => ∃ (b40 : Bool), v38 = .bool b40 ∧ condP b40 (CallsE Try.prog 14 #[.slice x8A x8n x8c, .slice x1A x1n x1c] w39 (fun v41 w42 => ∃ (b43 : Bool), v41 = .bool b43 ∧ law16_RelocApplies.p10 K b43 w42)) (law16_RelocApplies.p10 K false w39))
abbrev law16_RelocApplies.b0 (L0 : Option Addr → Nat → Nat → Option Addr → Nat → Nat → Option Addr → Nat → Nat → Option Addr → Nat → Nat → Option Addr → Nat → Nat → Int → Int → World → Prop) (K : Value → World → Prop) (x0A : Option Addr) (x0n : Nat) (x0c : Nat) (x1A : Option Addr) (x1n : Nat) (x1c : Nat) (x7A : Option Addr) (x7n : Nat) (x7c : Nat) (x8A : Option Addr) (x8n : Nat) (x8c : Nat) (x9A : Option Addr) (x9n : Nat) (x9c : Nat) (x58 : Int) (x59 : Int) (w : World) : Prop :=
  condP (decide (x59 < x58)) ((0 ≤ x59 ∧ x59 < ((x9n : Nat) : Int)) ∧ ∃ (a34 : Addr), x9A = some a34 ∧ ∃ (n35 : Int), w.cell? (a34.add x59.toNat) = some (.int .u8 n35) ∧ (0 ≤ x59 ∧ x59 < ((x9n : Nat) : Int)) ∧ ∃ (a36 : Addr), x9A = some a36 ∧ canStore w (a36.add x59.toNat) ∧ wlet (w.setCell (a36.add x59.toNat) (.int .u8 (IntKind.wrap .u8 (n35 + (1 : Int))))) fun w37 => L0 x0A x0n x0c x1A x1n x1c x7A x7n x7c x8A x8n x8c x9A x9n x9c x58 (IntKind.wrap .i64 (x59 + (1 : Int))) w37) (law16_RelocApplies.p9 K x0A x0n x0c x1A x1n x1c x7A x7n x7c x8A x8n x8c w)
def law16_RelocApplies.l0 (K : Value → World → Prop) (k : Nat) : Option Addr → Nat → Nat → Option Addr → Nat → Nat → Option Addr → Nat → Nat → Option Addr → Nat → Nat → Option Addr → Nat → Nat → Int → Int → World → Prop :=
  Nat.rec (motive := fun _ => Option Addr → Nat → Nat → Option Addr → Nat → Nat → Option Addr → Nat → Nat → Option Addr → Nat → Nat → Option Addr → Nat → Nat → Int → Int → World → Prop) (fun _ _ _ _ _ _ _ _ _ _ _ _ _ _ _ _ _ _ => False) (fun _ ih => law16_RelocApplies.b0 ih K) k
theorem law16_RelocApplies.l0_succ (K : Value → World → Prop) (k : Nat) (x0A : Option Addr) (x0n : Nat) (x0c : Nat) (x1A : Option Addr) (x1n : Nat) (x1c : Nat) (x7A : Option Addr) (x7n : Nat) (x7c : Nat) (x8A : Option Addr) (x8n : Nat) (x8c : Nat) (x9A : Option Addr) (x9n : Nat) (x9c : Nat) (x58 : Int) (x59 : Int) (w : World) : law16_RelocApplies.l0 K (k + 1) x0A x0n x0c x1A x1n x1c x7A x7n x7c x8A x8n x8c x9A x9n x9c x58 x59 w = law16_RelocApplies.b0 (law16_RelocApplies.l0 K k) K x0A x0n x0c x1A x1n x1c x7A x7n x7c x8A x8n x8c x9A x9n x9c x58 x59 w := rfl
abbrev law16_RelocApplies.p8 (K : Value → World → Prop) (x0A : Option Addr) (x0n : Nat) (x0c : Nat) (x1A : Option Addr) (x1n : Nat) (x1c : Nat) (x7A : Option Addr) (x7n : Nat) (x7c : Nat) (x8A : Option Addr) (x8n : Nat) (x8c : Nat) (x9A : Option Addr) (x9n : Nat) (x9c : Nat) (x58 : Int) (x59 : Int) (w : World) : Prop :=
  ∃ k, law16_RelocApplies.l0 K k x0A x0n x0c x1A x1n x1c x7A x7n x7c x8A x8n x8c x9A x9n x9c x58 x59 w
abbrev law16_RelocApplies.p7 (K : Value → World → Prop) (x0A : Option Addr) (x0n : Nat) (x0c : Nat) (x1A : Option Addr) (x1n : Nat) (x1c : Nat) (x7A : Option Addr) (x7n : Nat) (x7c : Nat) (x8A : Option Addr) (x8n : Nat) (x8c : Nat) (x9A : Option Addr) (x9n : Nat) (x9c : Nat) (w : World) : Prop :=
  law16_RelocApplies.p8 K x0A x0n x0c x1A x1n x1c x7A x7n x7c x8A x8n x8c x9A x9n x9c ((x9n : Nat) : Int) 0 w
abbrev law16_RelocApplies.p6 (K : Value → World → Prop) (x0A : Option Addr) (x0n : Nat) (x0c : Nat) (x1A : Option Addr) (x1n : Nat) (x1c : Nat) (x7A : Option Addr) (x7n : Nat) (x7c : Nat) (x8A : Option Addr) (x8n : Nat) (x8c : Nat) (x9A : Option Addr) (x9n : Nat) (x9c : Nat) (x56 : Bool) (w : World) : Prop :=
  condP x56 (K (.bool false) w) (law16_RelocApplies.p7 K x0A x0n x0c x1A x1n x1c x7A x7n x7c x8A x8n x8c x9A x9n x9c w)
abbrev law16_RelocApplies.p5 (K : Value → World → Prop) (x0A : Option Addr) (x0n : Nat) (x0c : Nat) (x1A : Option Addr) (x1n : Nat) (x1c : Nat) (x7A : Option Addr) (x7n : Nat) (x7c : Nat) (x8A : Option Addr) (x8n : Nat) (x8c : Nat) (x9A : Option Addr) (x9n : Nat) (x9c : Nat) (x10 : Int) (x11A : Option Addr) (x11n : Nat) (x11c : Nat) (x12 : Int) (w : World) : Prop :=
  condP (x10 != x12) (law16_RelocApplies.p6 K x0A x0n x0c x1A x1n x1c x7A x7n x7c x8A x8n x8c x9A x9n x9c true w) (CallsE Try.prog 13 #[.slice x9A x9n x9c, .slice x11A x11n x11c] w (fun v44 w45 => ∃ (b46 : Bool), v44 = .bool b46 ∧ law16_RelocApplies.p6 K x0A x0n x0c x1A x1n x1c x7A x7n x7c x8A x8n x8c x9A x9n x9c (!b46) w45))
abbrev law16_RelocApplies.p4 (K : Value → World → Prop) (x0A : Option Addr) (x0n : Nat) (x0c : Nat) (x1A : Option Addr) (x1n : Nat) (x1c : Nat) (x5 : Addr) (x7A : Option Addr) (x7n : Nat) (x7c : Nat) (x8A : Option Addr) (x8n : Nat) (x8c : Nat) (x9A : Option Addr) (x9n : Nat) (x9c : Nat) (x10 : Int) (w : World) : Prop :=
  ∃ (n25 : Int), w.cell? x5 = some (.int .i64 n25) ∧ ∃ (n26 : Int), w.cell? (x5.add 1) = some (.int .i64 n26) ∧ ∃ (n27 : Int), w.cell? (x5.add 2) = some (.int .i64 n27) ∧ CallsE Try.prog 12 #[.slice x0A x0n x0c, .slice x1A x1n x1c, .int .i64 n25, .int .i64 n26, .int .i64 n27] w (fun v28 w29 => ∃ (A30 : Option Addr) (m31 : Nat) (c32 : Nat) (n33 : Int), v28 = .tuple #[.slice A30 m31 c32, .int .i64 n33] ∧ law16_RelocApplies.p5 K x0A x0n x0c x1A x1n x1c x7A x7n x7c x8A x8n x8c x9A x9n x9c x10 A30 m31 c32 n33 w29)
abbrev law16_RelocApplies.p3 (K : Value → World → Prop) (x0A : Option Addr) (x0n : Nat) (x0c : Nat) (x1A : Option Addr) (x1n : Nat) (x1c : Nat) (x5 : Addr) (x7A : Option Addr) (x7n : Nat) (x7c : Nat) (x8A : Option Addr) (x8n : Nat) (x8c : Nat) (w : World) : Prop :=
  ∃ (n16 : Int), w.cell? x5 = some (.int .i64 n16) ∧ ∃ (n17 : Int), w.cell? (x5.add 1) = some (.int .i64 n17) ∧ ∃ (n18 : Int), w.cell? (x5.add 2) = some (.int .i64 n18) ∧ CallsE Try.prog 11 #[.slice x7A x7n x7c, .slice x8A x8n x8c, .int .i64 n16, .int .i64 n17, .int .i64 n18] w (fun v19 w20 => ∃ (A21 : Option Addr) (m22 : Nat) (c23 : Nat) (n24 : Int), v19 = .tuple #[.slice A21 m22 c23, .int .i64 n24] ∧ law16_RelocApplies.p4 K x0A x0n x0c x1A x1n x1c x5 x7A x7n x7c x8A x8n x8c A21 m22 c23 n24 w20)
abbrev law16_RelocApplies.p2 (K : Value → World → Prop) (x0A : Option Addr) (x0n : Nat) (x0c : Nat) (x1A : Option Addr) (x1n : Nat) (x1c : Nat) (x5 : Addr) (w : World) : Prop :=
  CallsE Try.prog 10 #[.slice x0A x0n x0c] w (fun v5 w6 => ∃ (A7 : Option Addr) (m8 : Nat) (c9 : Nat), v5 = .slice A7 m8 c9 ∧ wlet (w6.alloc (.cells #[] 3)) fun w10 => SemJ Try.prog (Builtin.append_ #[23, 23] 23 #[.slice (some ⟨w6.heap.size, 0, none⟩) 0 0, .slice x1A x1n x1c]) (fun v11 w12 => ∃ (A13 : Option Addr) (m14 : Nat) (c15 : Nat), v11 = .slice A13 m14 c15 ∧ law16_RelocApplies.p3 K x0A x0n x0c x1A x1n x1c x5 A7 m8 c9 A13 m14 c15 w12) w10)
abbrev law16_RelocApplies.p1 (K : Value → World → Prop) (x0A : Option Addr) (x0n : Nat) (x0c : Nat) (x1A : Option Addr) (x1n : Nat) (x1c : Nat) (x5 : Addr) (w : World) : Prop :=
  condP (decide ((9000 : Int) < ((x1n : Nat) : Int))) (K (.bool true) w) (law16_RelocApplies.p2 K x0A x0n x0c x1A x1n x1c x5 w)
abbrev law16_RelocApplies.p0 (K : Value → World → Prop) (x0A : Option Addr) (x0n : Nat) (x0c : Nat) (x1A : Option Addr) (x1n : Nat) (x1c : Nat) (x5 : Addr) (w : World) : Prop :=
  CallsE Try.prog 9 #[] w (fun v2 w3 => ∃ (b4 : Bool), v2 = .bool b4 ∧ condP (!b4) (K (.bool false) w3) (law16_RelocApplies.p1 K x0A x0n x0c x1A x1n x1c x5 w3))
abbrev law16_RelocApplies.F (q0A : Option Addr) (q0n : Nat) (q0c : Nat) (q1A : Option Addr) (q1n : Nat) (q1c : Nat) (q2_0 : Int) (q2_1 : Int) (q2_2 : Int) (K : Value → World → Prop) (w : World) : Prop :=
  wlet (w.alloc (.cells #[.int .i64 q2_0, .int .i64 q2_1, .int .i64 q2_2] 25)) fun w1 => law16_RelocApplies.p0 K q0A q0n q0c q1A q1n q1c (⟨w.heap.size, 0, none⟩) w1
theorem law16_RelocApplies.ok {q0A : Option Addr} {q0n : Nat} {q0c : Nat} {q1A : Option Addr} {q1n : Nat} {q1c : Nat} {q2_0 : Int} {q2_1 : Int} {q2_2 : Int} {K : Value → World → Prop} {w : World} (h : law16_RelocApplies.F q0A q0n q0c q1A q1n q1c q2_0 q2_1 q2_2 K w) :
    CallsE Try.prog 3 #[.slice q0A q0n q0c, .slice q1A q1n q1c, .agg #[.int .i64 q2_0, .int .i64 q2_1, .int .i64 q2_2]] w K := by
  refine calls_of_J (n := 79) (rs := [.tmp 6]) Try.func3 rfl rfl rfl rfl ?_
  refine J_seq (fun σ w => vS (σ 0) fun x0A x0n x0c => vS (σ 1) fun x1A x1n x1c => vPa (σ 5) fun x5 => law16_RelocApplies.p0 K x0A x0n x0c x1A x1n x1c x5 w) ?_ ?_
  ·
    exact sh_sound _ _ _ _ (Eq.mp (by kernel_rfl) h)
  · intro σ w h
    obtain ⟨x0A, x0n, x0c, e0, h⟩ := vS_elim h
    obtain ⟨x1A, x1n, x1c, e1, h⟩ := vS_elim h
    obtain ⟨x5, e5, h⟩ := vPa_elim h
    refine J.sub ?_ ((((Sub.base _).upd e0).upd e1).upd e5)
    clear e0 e1 e5
    refine J_seq (fun σ w => vS (σ 0) fun x0A x0n x0c => vS (σ 1) fun x1A x1n x1c => vPa (σ 5) fun x5 => law16_RelocApplies.p1 K x0A x0n x0c x1A x1n x1c x5 w) ?_ ?_
    ·
      exact sh_sound _ _ _ _ (Eq.mp (by kernel_rfl) h)
    · intro σ w h
      obtain ⟨x0A, x0n, x0c, e0, h⟩ := vS_elim h
      obtain ⟨x1A, x1n, x1c, e1, h⟩ := vS_elim h
      obtain ⟨x5, e5, h⟩ := vPa_elim h
      refine J.sub ?_ ((((Sub.base _).upd e0).upd e1).upd e5)
      clear e0 e1 e5
      refine J_seq (fun σ w => vS (σ 0) fun x0A x0n x0c => vS (σ 1) fun x1A x1n x1c => vPa (σ 5) fun x5 => law16_RelocApplies.p2 K x0A x0n x0c x1A x1n x1c x5 w) ?_ ?_
      ·
        exact sh_sound _ _ _ _ (Eq.mp (by kernel_rfl) h)
      · intro σ w h
        obtain ⟨x0A, x0n, x0c, e0, h⟩ := vS_elim h
        obtain ⟨x1A, x1n, x1c, e1, h⟩ := vS_elim h
        obtain ⟨x5, e5, h⟩ := vPa_elim h
        refine J.sub ?_ ((((Sub.base _).upd e0).upd e1).upd e5)
        clear e0 e1 e5
        refine J_seq (fun σ w => vS (σ 0) fun x0A x0n x0c => vS (σ 1) fun x1A x1n x1c => vPa (σ 5) fun x5 => vS (σ 7) fun x7A x7n x7c => vS (σ 8) fun x8A x8n x8c => law16_RelocApplies.p3 K x0A x0n x0c x1A x1n x1c x5 x7A x7n x7c x8A x8n x8c w) ?_ ?_
        ·
          exact sh_sound _ _ _ _ (Eq.mp (by kernel_rfl) h)
        · intro σ w h
          obtain ⟨x0A, x0n, x0c, e0, h⟩ := vS_elim h
          obtain ⟨x1A, x1n, x1c, e1, h⟩ := vS_elim h
          obtain ⟨x5, e5, h⟩ := vPa_elim h
          obtain ⟨x7A, x7n, x7c, e7, h⟩ := vS_elim h
          obtain ⟨x8A, x8n, x8c, e8, h⟩ := vS_elim h
          refine J.sub ?_ ((((((Sub.base _).upd e0).upd e1).upd e5).upd e7).upd e8)
          clear e0 e1 e5 e7 e8
          refine J_seq (fun σ w => vS (σ 0) fun x0A x0n x0c => vS (σ 1) fun x1A x1n x1c => vPa (σ 5) fun x5 => vS (σ 7) fun x7A x7n x7c => vS (σ 8) fun x8A x8n x8c => vS (σ 9) fun x9A x9n x9c => vI .i64 (σ 10) fun x10 => law16_RelocApplies.p4 K x0A x0n x0c x1A x1n x1c x5 x7A x7n x7c x8A x8n x8c x9A x9n x9c x10 w) ?_ ?_
          ·
            exact sh_sound _ _ _ _ (Eq.mp (by kernel_rfl) h)
          · intro σ w h
            obtain ⟨x0A, x0n, x0c, e0, h⟩ := vS_elim h
            obtain ⟨x1A, x1n, x1c, e1, h⟩ := vS_elim h
            obtain ⟨x5, e5, h⟩ := vPa_elim h
            obtain ⟨x7A, x7n, x7c, e7, h⟩ := vS_elim h
            obtain ⟨x8A, x8n, x8c, e8, h⟩ := vS_elim h
            obtain ⟨x9A, x9n, x9c, e9, h⟩ := vS_elim h
            obtain ⟨x10, e10, h⟩ := vI_elim h
            refine J.sub ?_ ((((((((Sub.base _).upd e0).upd e1).upd e5).upd e7).upd e8).upd e9).upd e10)
            clear e0 e1 e5 e7 e8 e9 e10
            refine J_seq (fun σ w => vS (σ 0) fun x0A x0n x0c => vS (σ 1) fun x1A x1n x1c => vS (σ 7) fun x7A x7n x7c => vS (σ 8) fun x8A x8n x8c => vS (σ 9) fun x9A x9n x9c => vI .i64 (σ 10) fun x10 => vS (σ 11) fun x11A x11n x11c => vI .i64 (σ 12) fun x12 => law16_RelocApplies.p5 K x0A x0n x0c x1A x1n x1c x7A x7n x7c x8A x8n x8c x9A x9n x9c x10 x11A x11n x11c x12 w) ?_ ?_
            ·
              exact sh_sound _ _ _ _ (Eq.mp (by kernel_rfl) h)
            · intro σ w h
              obtain ⟨x0A, x0n, x0c, e0, h⟩ := vS_elim h
              obtain ⟨x1A, x1n, x1c, e1, h⟩ := vS_elim h
              obtain ⟨x7A, x7n, x7c, e7, h⟩ := vS_elim h
              obtain ⟨x8A, x8n, x8c, e8, h⟩ := vS_elim h
              obtain ⟨x9A, x9n, x9c, e9, h⟩ := vS_elim h
              obtain ⟨x10, e10, h⟩ := vI_elim h
              obtain ⟨x11A, x11n, x11c, e11, h⟩ := vS_elim h
              obtain ⟨x12, e12, h⟩ := vI_elim h
              refine J.sub ?_ (((((((((Sub.base _).upd e0).upd e1).upd e7).upd e8).upd e9).upd e10).upd e11).upd e12)
              clear e0 e1 e7 e8 e9 e10 e11 e12
              refine J_seq (fun σ w => vS (σ 0) fun x0A x0n x0c => vS (σ 1) fun x1A x1n x1c => vS (σ 7) fun x7A x7n x7c => vS (σ 8) fun x8A x8n x8c => vS (σ 9) fun x9A x9n x9c => law16_RelocApplies.p7 K x0A x0n x0c x1A x1n x1c x7A x7n x7c x8A x8n x8c x9A x9n x9c w) ?_ ?_
              ·
                refine J_seq (fun σ w => vS (σ 0) fun x0A x0n x0c => vS (σ 1) fun x1A x1n x1c => vS (σ 7) fun x7A x7n x7c => vS (σ 8) fun x8A x8n x8c => vS (σ 9) fun x9A x9n x9c => vB (σ 56) fun x56 => law16_RelocApplies.p6 K x0A x0n x0c x1A x1n x1c x7A x7n x7c x8A x8n x8c x9A x9n x9c x56 w) ?_ ?_
                ·
                  exact sh_sound _ _ _ _ (Eq.mp (by kernel_rfl) h)
                · intro σ w h
                  obtain ⟨x0A, x0n, x0c, e0, h⟩ := vS_elim h
                  obtain ⟨x1A, x1n, x1c, e1, h⟩ := vS_elim h
                  obtain ⟨x7A, x7n, x7c, e7, h⟩ := vS_elim h
                  obtain ⟨x8A, x8n, x8c, e8, h⟩ := vS_elim h
                  obtain ⟨x9A, x9n, x9c, e9, h⟩ := vS_elim h
                  obtain ⟨x56, e56, h⟩ := vB_elim h
                  refine J.sub ?_ (((((((Sub.base _).upd e0).upd e1).upd e7).upd e8).upd e9).upd e56)
                  clear e0 e1 e7 e8 e9 e56
                  exact sh_sound _ _ _ _ (Eq.mp (by kernel_rfl) h)
              · intro σ w h
                obtain ⟨x0A, x0n, x0c, e0, h⟩ := vS_elim h
                obtain ⟨x1A, x1n, x1c, e1, h⟩ := vS_elim h
                obtain ⟨x7A, x7n, x7c, e7, h⟩ := vS_elim h
                obtain ⟨x8A, x8n, x8c, e8, h⟩ := vS_elim h
                obtain ⟨x9A, x9n, x9c, e9, h⟩ := vS_elim h
                refine J.sub ?_ ((((((Sub.base _).upd e0).upd e1).upd e7).upd e8).upd e9)
                clear e0 e1 e7 e8 e9
                refine J_seq (fun σ w => vS (σ 0) fun x0A x0n x0c => vS (σ 1) fun x1A x1n x1c => vS (σ 7) fun x7A x7n x7c => vS (σ 8) fun x8A x8n x8c => law16_RelocApplies.p9 K x0A x0n x0c x1A x1n x1c x7A x7n x7c x8A x8n x8c w) ?_ ?_
                ·
                  refine J_seq (fun σ w => vS (σ 0) fun x0A x0n x0c => vS (σ 1) fun x1A x1n x1c => vS (σ 7) fun x7A x7n x7c => vS (σ 8) fun x8A x8n x8c => vS (σ 9) fun x9A x9n x9c => vI .i64 (σ 58) fun x58 => vI .i64 (σ 59) fun x59 => law16_RelocApplies.p8 K x0A x0n x0c x1A x1n x1c x7A x7n x7c x8A x8n x8c x9A x9n x9c x58 x59 w) ?_ ?_
                  ·
                    exact sh_sound _ _ _ _ (Eq.mp (by kernel_rfl) h)
                  · intro σ w h
                    obtain ⟨x0A, x0n, x0c, e0, h⟩ := vS_elim h
                    obtain ⟨x1A, x1n, x1c, e1, h⟩ := vS_elim h
                    obtain ⟨x7A, x7n, x7c, e7, h⟩ := vS_elim h
                    obtain ⟨x8A, x8n, x8c, e8, h⟩ := vS_elim h
                    obtain ⟨x9A, x9n, x9c, e9, h⟩ := vS_elim h
                    obtain ⟨x58, e58, h⟩ := vI_elim h
                    obtain ⟨x59, e59, h⟩ := vI_elim h
                    refine J.sub ?_ ((((((((Sub.base _).upd e0).upd e1).upd e7).upd e8).upd e9).upd e58).upd e59)
                    clear e0 e1 e7 e8 e9 e58 e59
                    refine J_block ?_
                    refine J_loop (fun k σ w => vS (σ 0) fun x0A x0n x0c => vS (σ 1) fun x1A x1n x1c => vS (σ 7) fun x7A x7n x7c => vS (σ 8) fun x8A x8n x8c => vS (σ 9) fun x9A x9n x9c => vI .i64 (σ 58) fun x58 => vI .i64 (σ 59) fun x59 => law16_RelocApplies.l0 K k x0A x0n x0c x1A x1n x1c x7A x7n x7c x8A x8n x8c x9A x9n x9c x58 x59 w) (Eq.mp (by kernel_rfl) h) ?_ ?_
                    · intro σ w h
                      obtain ⟨x0A, x0n, x0c, e0, h⟩ := vS_elim h
                      obtain ⟨x1A, x1n, x1c, e1, h⟩ := vS_elim h
                      obtain ⟨x7A, x7n, x7c, e7, h⟩ := vS_elim h
                      obtain ⟨x8A, x8n, x8c, e8, h⟩ := vS_elim h
                      obtain ⟨x9A, x9n, x9c, e9, h⟩ := vS_elim h
                      obtain ⟨x58, e58, h⟩ := vI_elim h
                      obtain ⟨x59, e59, h⟩ := vI_elim h
                      exact h
                    · intro k0 σ w h
                      obtain ⟨x0A, x0n, x0c, e0, h⟩ := vS_elim h
                      obtain ⟨x1A, x1n, x1c, e1, h⟩ := vS_elim h
                      obtain ⟨x7A, x7n, x7c, e7, h⟩ := vS_elim h
                      obtain ⟨x8A, x8n, x8c, e8, h⟩ := vS_elim h
                      obtain ⟨x9A, x9n, x9c, e9, h⟩ := vS_elim h
                      obtain ⟨x58, e58, h⟩ := vI_elim h
                      obtain ⟨x59, e59, h⟩ := vI_elim h
                      refine J.sub ?_ ((((((((Sub.base _).upd e0).upd e1).upd e7).upd e8).upd e9).upd e58).upd e59)
                      clear e0 e1 e7 e8 e9 e58 e59
                      exact sh_sound _ _ _ _ (Eq.mp (by kernel_rfl) h)
                · intro σ w h
                  obtain ⟨x0A, x0n, x0c, e0, h⟩ := vS_elim h
                  obtain ⟨x1A, x1n, x1c, e1, h⟩ := vS_elim h
                  obtain ⟨x7A, x7n, x7c, e7, h⟩ := vS_elim h
                  obtain ⟨x8A, x8n, x8c, e8, h⟩ := vS_elim h
                  refine J.sub ?_ (((((Sub.base _).upd e0).upd e1).upd e7).upd e8)
                  clear e0 e1 e7 e8
                  refine J_seq (fun σ w => vB (σ 6) fun x6 => law16_RelocApplies.p10 K x6 w) ?_ ?_
                  ·
                    exact sh_sound _ _ _ _ (Eq.mp (by kernel_rfl) h)
                  · intro σ w h
                    obtain ⟨x6, e6, h⟩ := vB_elim h
                    refine J.sub ?_ ((Sub.base _).upd e6)
                    clear e6
                    exact sh_sound _ _ _ _ (Eq.mp (by kernel_rfl) h)

/-! ### hayloft/hayloftlaw16.RelocBack: function 4 -/
abbrev law16_RelocBack.p10 (K : Value → World → Prop) (x6 : Bool) (w : World) : Prop :=
  K (.bool x6) w
abbrev law16_RelocBack.p9 (K : Value → World → Prop) (x0A : Option Addr) (x0n : Nat) (x0c : Nat) (x13A : Option Addr) (x13n : Nat) (x13c : Nat) (x14 : Int) (x15A : Option Addr) (x15n : Nat) (x15c : Nat) (x16 : Int) (x17A : Option Addr) (x17n : Nat) (x17c : Nat) (x18 : Int) (w : World) : Prop :=
  condP (x14 == (0 : Int)) (condP (x16 == (0 : Int)) (condP (x18 == (0 : Int)) (CallsE Try.prog 13 #[.slice x13A x13n x13c, .slice x0A x0n x0c] w (fun v32 w33 => ∃ (b34 : Bool), v32 = .bool b34 ∧ condP b34 (CallsE Try.prog 13 #[.slice x15A x15n x15c, .slice x17A x17n x17c] w33 (fun v35 w36 => ∃ (b37 : Bool), v35 = .bool b37 ∧ law16_RelocBack.p10 K b37 w36)) (law16_RelocBack.p10 K false w33))) (law16_RelocBack.p10 K false w)) (law16_RelocBack.p10 K false w)) (law16_RelocBack.p10 K false w)
abbrev law16_RelocBack.p8 (K : Value → World → Prop) (x0A : Option Addr) (x0n : Nat) (x0c : Nat) (x1A : Option Addr) (x1n : Nat) (x1c : Nat) (x7 : Int) (x9 : Int) (x10 : Int) (x13A : Option Addr) (x13n : Nat) (x13c : Nat) (x14 : Int) (x15A : Option Addr) (x15n : Nat) (x15c : Nat) (x16 : Int) (w : World) : Prop :=
  CallsE Try.prog 11 #[.slice x0A x0n x0c, .slice x1A x1n x1c, .int .i64 x7, .int .i64 x9, .int .i64 x10] w (fun v26 w27 => ∃ (A28 : Option Addr) (m29 : Nat) (c30 : Nat) (n31 : Int), v26 = .tuple #[.slice A28 m29 c30, .int .i64 n31] ∧ law16_RelocBack.p9 K x0A x0n x0c x13A x13n x13c x14 x15A x15n x15c x16 A28 m29 c30 n31 w27)
abbrev law16_RelocBack.p7 (K : Value → World → Prop) (x0A : Option Addr) (x0n : Nat) (x0c : Nat) (x1A : Option Addr) (x1n : Nat) (x1c : Nat) (x7 : Int) (x8 : Int) (x9 : Int) (x10 : Int) (x11A : Option Addr) (x11n : Nat) (x11c : Nat) (x13A : Option Addr) (x13n : Nat) (x13c : Nat) (x14 : Int) (w : World) : Prop :=
  CallsE Try.prog 11 #[.slice x11A x11n x11c, .slice x1A x1n x1c, .int .i64 x8, .int .i64 x9, .int .i64 x10] w (fun v20 w21 => ∃ (A22 : Option Addr) (m23 : Nat) (c24 : Nat) (n25 : Int), v20 = .tuple #[.slice A22 m23 c24, .int .i64 n25] ∧ law16_RelocBack.p8 K x0A x0n x0c x1A x1n x1c x7 x9 x10 x13A x13n x13c x14 A22 m23 c24 n25 w21)
abbrev law16_RelocBack.p6 (K : Value → World → Prop) (x0A : Option Addr) (x0n : Nat) (x0c : Nat) (x1A : Option Addr) (x1n : Nat) (x1c : Nat) (x7 : Int) (x8 : Int) (x9 : Int) (x10 : Int) (x11A : Option Addr) (x11n : Nat) (x11c : Nat) (w : World) : Prop :=
  CallsE Try.prog 11 #[.slice x11A x11n x11c, .slice x1A x1n x1c, .int .i64 x8, .int .i64 x7, .int .i64 x10] w (fun v14 w15 => ∃ (A16 : Option Addr) (m17 : Nat) (c18 : Nat) (n19 : Int), v14 = .tuple #[.slice A16 m17 c18, .int .i64 n19] ∧ law16_RelocBack.p7 K x0A x0n x0c x1A x1n x1c x7 x8 x9 x10 x11A x11n x11c A16 m17 c18 n19 w15)
abbrev law16_RelocBack.p5 (K : Value → World → Prop) (x0A : Option Addr) (x0n : Nat) (x0c : Nat) (x1A : Option Addr) (x1n : Nat) (x1c : Nat) (x7 : Int) (x8 : Int) (x9 : Int) (x10 : Int) (x11A : Option Addr) (x11n : Nat) (x11c : Nat) (x12 : Int) (w : World) : Prop :=
  condP (x12 != (0 : Int)) (K (.bool (((x11n : Nat) : Int) == (0 : Int))) w) (law16_RelocBack.p6 K x0A x0n x0c x1A x1n x1c x7 x8 x9 x10 x11A x11n x11c w)
abbrev law16_RelocBack.p4 (K : Value → World → Prop) (x0A : Option Addr) (x0n : Nat) (x0c : Nat) (x1A : Option Addr) (x1n : Nat) (x1c : Nat) (x7 : Int) (x8 : Int) (x9 : Int) (x10 : Int) (w : World) : Prop :=
  CallsE Try.prog 11 #[.slice x0A x0n x0c, .slice x1A x1n x1c, .int .i64 x7, .int .i64 x8, .int .i64 x10] w (fun v8 w9 => ∃ (A10 : Option Addr) (m11 : Nat) (c12 : Nat) (n13 : Int), v8 = .tuple #[.slice A10 m11 c12, .int .i64 n13] ∧ law16_RelocBack.p5 K x0A x0n x0c x1A x1n x1c x7 x8 x9 x10 A10 m11 c12 n13 w9)
abbrev law16_RelocBack.p3 (K : Value → World → Prop) (x0A : Option Addr) (x0n : Nat) (x0c : Nat) (x1A : Option Addr) (x1n : Nat) (x1c : Nat) (x7 : Int) (x8 : Int) (x9 : Int) (w : World) : Prop :=
  law16_RelocBack.p4 K x0A x0n x0c x1A x1n x1c x7 x8 x9 1048576 w
abbrev law16_RelocBack.p2 (K : Value → World → Prop) (x0A : Option Addr) (x0n : Nat) (x0c : Nat) (x1A : Option Addr) (x1n : Nat) (x1c : Nat) (x5 : Addr) (w : World) : Prop :=
  (0 ≤ (0 : Int) ∧ (0 : Int) < ((3 : Nat) : Int)) ∧ ∃ (n5 : Int), w.cell? (x5.add ((0 : Int).toNat)) = some (.int .u32 n5) ∧ (0 ≤ (1 : Int) ∧ (1 : Int) < ((3 : Nat) : Int)) ∧ ∃ (n6 : Int), w.cell? (x5.add ((1 : Int).toNat)) = some (.int .u32 n6) ∧ (0 ≤ (2 : Int) ∧ (2 : Int) < ((3 : Nat) : Int)) ∧ ∃ (n7 : Int), w.cell? (x5.add ((2 : Int).toNat)) = some (.int .u32 n7) ∧ law16_RelocBack.p3 K x0A x0n x0c x1A x1n x1c (IntKind.wrap .i64 ((256 : Int) + (IntKind.wrap .i64 ((256 : Int) * (IntKind.wrap .i64 n5))))) (IntKind.wrap .i64 ((256 : Int) + (IntKind.wrap .i64 ((256 : Int) * (IntKind.wrap .i64 n6))))) (IntKind.wrap .i64 ((256 : Int) + (IntKind.wrap .i64 ((256 : Int) * (IntKind.wrap .i64 n7))))) w
abbrev law16_RelocBack.p1 (K : Value → World → Prop) (x0A : Option Addr) (x0n : Nat) (x0c : Nat) (x1A : Option Addr) (x1n : Nat) (x1c : Nat) (x5 : Addr) (w : World) : Prop :=
  condP (decide ((9000 : Int) < ((x1n : Nat) : Int))) (K (.bool true) w) (law16_RelocBack.p2 K x0A x0n x0c x1A x1n x1c x5 w)
abbrev law16_RelocBack.p0 (K : Value → World → Prop) (x0A : Option Addr) (x0n : Nat) (x0c : Nat) (x1A : Option Addr) (x1n : Nat) (x1c : Nat) (x5 : Addr) (w : World) : Prop :=
  CallsE Try.prog 9 #[] w (fun v2 w3 => ∃ (b4 : Bool), v2 = .bool b4 ∧ condP (!b4) (K (.bool false) w3) (law16_RelocBack.p1 K x0A x0n x0c x1A x1n x1c x5 w3))
abbrev law16_RelocBack.F (q0A : Option Addr) (q0n : Nat) (q0c : Nat) (q1A : Option Addr) (q1n : Nat) (q1c : Nat) (q2_0 : Int) (q2_1 : Int) (q2_2 : Int) (K : Value → World → Prop) (w : World) : Prop :=
  wlet (w.alloc (.cells #[.int .u32 q2_0, .int .u32 q2_1, .int .u32 q2_2] 37)) fun w1 => law16_RelocBack.p0 K q0A q0n q0c q1A q1n q1c (⟨w.heap.size, 0, none⟩) w1
theorem law16_RelocBack.ok {q0A : Option Addr} {q0n : Nat} {q0c : Nat} {q1A : Option Addr} {q1n : Nat} {q1c : Nat} {q2_0 : Int} {q2_1 : Int} {q2_2 : Int} {K : Value → World → Prop} {w : World} (h : law16_RelocBack.F q0A q0n q0c q1A q1n q1c q2_0 q2_1 q2_2 K w) :
    CallsE Try.prog 4 #[.slice q0A q0n q0c, .slice q1A q1n q1c, .agg #[.int .u32 q2_0, .int .u32 q2_1, .int .u32 q2_2]] w K := by
  refine calls_of_J (n := 100) (rs := [.tmp 6]) Try.func4 rfl rfl rfl rfl ?_
  refine J_seq (fun σ w => vS (σ 0) fun x0A x0n x0c => vS (σ 1) fun x1A x1n x1c => vPa (σ 5) fun x5 => law16_RelocBack.p0 K x0A x0n x0c x1A x1n x1c x5 w) ?_ ?_
  ·
    exact sh_sound _ _ _ _ (Eq.mp (by kernel_rfl) h)
  · intro σ w h
    obtain ⟨x0A, x0n, x0c, e0, h⟩ := vS_elim h
    obtain ⟨x1A, x1n, x1c, e1, h⟩ := vS_elim h
    obtain ⟨x5, e5, h⟩ := vPa_elim h
    refine J.sub ?_ ((((Sub.base _).upd e0).upd e1).upd e5)
    clear e0 e1 e5
    refine J_seq (fun σ w => vS (σ 0) fun x0A x0n x0c => vS (σ 1) fun x1A x1n x1c => vPa (σ 5) fun x5 => law16_RelocBack.p1 K x0A x0n x0c x1A x1n x1c x5 w) ?_ ?_
    ·
      exact sh_sound _ _ _ _ (Eq.mp (by kernel_rfl) h)
    · intro σ w h
      obtain ⟨x0A, x0n, x0c, e0, h⟩ := vS_elim h
      obtain ⟨x1A, x1n, x1c, e1, h⟩ := vS_elim h
      obtain ⟨x5, e5, h⟩ := vPa_elim h
      refine J.sub ?_ ((((Sub.base _).upd e0).upd e1).upd e5)
      clear e0 e1 e5
      refine J_seq (fun σ w => vS (σ 0) fun x0A x0n x0c => vS (σ 1) fun x1A x1n x1c => vPa (σ 5) fun x5 => law16_RelocBack.p2 K x0A x0n x0c x1A x1n x1c x5 w) ?_ ?_
      ·
        exact sh_sound _ _ _ _ (Eq.mp (by kernel_rfl) h)
      · intro σ w h
        obtain ⟨x0A, x0n, x0c, e0, h⟩ := vS_elim h
        obtain ⟨x1A, x1n, x1c, e1, h⟩ := vS_elim h
        obtain ⟨x5, e5, h⟩ := vPa_elim h
        refine J.sub ?_ ((((Sub.base _).upd e0).upd e1).upd e5)
        clear e0 e1 e5
        refine J_seq (fun σ w => vS (σ 0) fun x0A x0n x0c => vS (σ 1) fun x1A x1n x1c => vI .i64 (σ 7) fun x7 => vI .i64 (σ 8) fun x8 => vI .i64 (σ 9) fun x9 => law16_RelocBack.p3 K x0A x0n x0c x1A x1n x1c x7 x8 x9 w) ?_ ?_
        ·
          exact sh_sound _ _ _ _ (Eq.mp (by kernel_rfl) h)
        · intro σ w h
          obtain ⟨x0A, x0n, x0c, e0, h⟩ := vS_elim h
          obtain ⟨x1A, x1n, x1c, e1, h⟩ := vS_elim h
          obtain ⟨x7, e7, h⟩ := vI_elim h
          obtain ⟨x8, e8, h⟩ := vI_elim h
          obtain ⟨x9, e9, h⟩ := vI_elim h
          refine J.sub ?_ ((((((Sub.base _).upd e0).upd e1).upd e7).upd e8).upd e9)
          clear e0 e1 e7 e8 e9
          refine J_seq (fun σ w => vS (σ 0) fun x0A x0n x0c => vS (σ 1) fun x1A x1n x1c => vI .i64 (σ 7) fun x7 => vI .i64 (σ 8) fun x8 => vI .i64 (σ 9) fun x9 => vI .i64 (σ 10) fun x10 => law16_RelocBack.p4 K x0A x0n x0c x1A x1n x1c x7 x8 x9 x10 w) ?_ ?_
          ·
            exact sh_sound _ _ _ _ (Eq.mp (by kernel_rfl) h)
          · intro σ w h
            obtain ⟨x0A, x0n, x0c, e0, h⟩ := vS_elim h
            obtain ⟨x1A, x1n, x1c, e1, h⟩ := vS_elim h
            obtain ⟨x7, e7, h⟩ := vI_elim h
            obtain ⟨x8, e8, h⟩ := vI_elim h
            obtain ⟨x9, e9, h⟩ := vI_elim h
            obtain ⟨x10, e10, h⟩ := vI_elim h
            refine J.sub ?_ (((((((Sub.base _).upd e0).upd e1).upd e7).upd e8).upd e9).upd e10)
            clear e0 e1 e7 e8 e9 e10
            refine J_seq (fun σ w => vS (σ 0) fun x0A x0n x0c => vS (σ 1) fun x1A x1n x1c => vI .i64 (σ 7) fun x7 => vI .i64 (σ 8) fun x8 => vI .i64 (σ 9) fun x9 => vI .i64 (σ 10) fun x10 => vS (σ 11) fun x11A x11n x11c => vI .i64 (σ 12) fun x12 => law16_RelocBack.p5 K x0A x0n x0c x1A x1n x1c x7 x8 x9 x10 x11A x11n x11c x12 w) ?_ ?_
            ·
              exact sh_sound _ _ _ _ (Eq.mp (by kernel_rfl) h)
            · intro σ w h
              obtain ⟨x0A, x0n, x0c, e0, h⟩ := vS_elim h
              obtain ⟨x1A, x1n, x1c, e1, h⟩ := vS_elim h
              obtain ⟨x7, e7, h⟩ := vI_elim h
              obtain ⟨x8, e8, h⟩ := vI_elim h
              obtain ⟨x9, e9, h⟩ := vI_elim h
              obtain ⟨x10, e10, h⟩ := vI_elim h
              obtain ⟨x11A, x11n, x11c, e11, h⟩ := vS_elim h
              obtain ⟨x12, e12, h⟩ := vI_elim h
              refine J.sub ?_ (((((((((Sub.base _).upd e0).upd e1).upd e7).upd e8).upd e9).upd e10).upd e11).upd e12)
              clear e0 e1 e7 e8 e9 e10 e11 e12
              refine J_seq (fun σ w => vS (σ 0) fun x0A x0n x0c => vS (σ 1) fun x1A x1n x1c => vI .i64 (σ 7) fun x7 => vI .i64 (σ 8) fun x8 => vI .i64 (σ 9) fun x9 => vI .i64 (σ 10) fun x10 => vS (σ 11) fun x11A x11n x11c => law16_RelocBack.p6 K x0A x0n x0c x1A x1n x1c x7 x8 x9 x10 x11A x11n x11c w) ?_ ?_
              ·
                exact sh_sound _ _ _ _ (Eq.mp (by kernel_rfl) h)
              · intro σ w h
                obtain ⟨x0A, x0n, x0c, e0, h⟩ := vS_elim h
                obtain ⟨x1A, x1n, x1c, e1, h⟩ := vS_elim h
                obtain ⟨x7, e7, h⟩ := vI_elim h
                obtain ⟨x8, e8, h⟩ := vI_elim h
                obtain ⟨x9, e9, h⟩ := vI_elim h
                obtain ⟨x10, e10, h⟩ := vI_elim h
                obtain ⟨x11A, x11n, x11c, e11, h⟩ := vS_elim h
                refine J.sub ?_ ((((((((Sub.base _).upd e0).upd e1).upd e7).upd e8).upd e9).upd e10).upd e11)
                clear e0 e1 e7 e8 e9 e10 e11
                refine J_seq (fun σ w => vS (σ 0) fun x0A x0n x0c => vS (σ 1) fun x1A x1n x1c => vI .i64 (σ 7) fun x7 => vI .i64 (σ 8) fun x8 => vI .i64 (σ 9) fun x9 => vI .i64 (σ 10) fun x10 => vS (σ 11) fun x11A x11n x11c => vS (σ 13) fun x13A x13n x13c => vI .i64 (σ 14) fun x14 => law16_RelocBack.p7 K x0A x0n x0c x1A x1n x1c x7 x8 x9 x10 x11A x11n x11c x13A x13n x13c x14 w) ?_ ?_
                ·
                  exact sh_sound _ _ _ _ (Eq.mp (by kernel_rfl) h)
                · intro σ w h
                  obtain ⟨x0A, x0n, x0c, e0, h⟩ := vS_elim h
                  obtain ⟨x1A, x1n, x1c, e1, h⟩ := vS_elim h
                  obtain ⟨x7, e7, h⟩ := vI_elim h
                  obtain ⟨x8, e8, h⟩ := vI_elim h
                  obtain ⟨x9, e9, h⟩ := vI_elim h
                  obtain ⟨x10, e10, h⟩ := vI_elim h
                  obtain ⟨x11A, x11n, x11c, e11, h⟩ := vS_elim h
                  obtain ⟨x13A, x13n, x13c, e13, h⟩ := vS_elim h
                  obtain ⟨x14, e14, h⟩ := vI_elim h
                  refine J.sub ?_ ((((((((((Sub.base _).upd e0).upd e1).upd e7).upd e8).upd e9).upd e10).upd e11).upd e13).upd e14)
                  clear e0 e1 e7 e8 e9 e10 e11 e13 e14
                  refine J_seq (fun σ w => vS (σ 0) fun x0A x0n x0c => vS (σ 1) fun x1A x1n x1c => vI .i64 (σ 7) fun x7 => vI .i64 (σ 9) fun x9 => vI .i64 (σ 10) fun x10 => vS (σ 13) fun x13A x13n x13c => vI .i64 (σ 14) fun x14 => vS (σ 15) fun x15A x15n x15c => vI .i64 (σ 16) fun x16 => law16_RelocBack.p8 K x0A x0n x0c x1A x1n x1c x7 x9 x10 x13A x13n x13c x14 x15A x15n x15c x16 w) ?_ ?_
                  ·
                    exact sh_sound _ _ _ _ (Eq.mp (by kernel_rfl) h)
                  · intro σ w h
                    obtain ⟨x0A, x0n, x0c, e0, h⟩ := vS_elim h
                    obtain ⟨x1A, x1n, x1c, e1, h⟩ := vS_elim h
                    obtain ⟨x7, e7, h⟩ := vI_elim h
                    obtain ⟨x9, e9, h⟩ := vI_elim h
                    obtain ⟨x10, e10, h⟩ := vI_elim h
                    obtain ⟨x13A, x13n, x13c, e13, h⟩ := vS_elim h
                    obtain ⟨x14, e14, h⟩ := vI_elim h
                    obtain ⟨x15A, x15n, x15c, e15, h⟩ := vS_elim h
                    obtain ⟨x16, e16, h⟩ := vI_elim h
                    refine J.sub ?_ ((((((((((Sub.base _).upd e0).upd e1).upd e7).upd e9).upd e10).upd e13).upd e14).upd e15).upd e16)
                    clear e0 e1 e7 e9 e10 e13 e14 e15 e16
                    refine J_seq (fun σ w => vS (σ 0) fun x0A x0n x0c => vS (σ 13) fun x13A x13n x13c => vI .i64 (σ 14) fun x14 => vS (σ 15) fun x15A x15n x15c => vI .i64 (σ 16) fun x16 => vS (σ 17) fun x17A x17n x17c => vI .i64 (σ 18) fun x18 => law16_RelocBack.p9 K x0A x0n x0c x13A x13n x13c x14 x15A x15n x15c x16 x17A x17n x17c x18 w) ?_ ?_
                    ·
                      exact sh_sound _ _ _ _ (Eq.mp (by kernel_rfl) h)
                    · intro σ w h
                      obtain ⟨x0A, x0n, x0c, e0, h⟩ := vS_elim h
                      obtain ⟨x13A, x13n, x13c, e13, h⟩ := vS_elim h
                      obtain ⟨x14, e14, h⟩ := vI_elim h
                      obtain ⟨x15A, x15n, x15c, e15, h⟩ := vS_elim h
                      obtain ⟨x16, e16, h⟩ := vI_elim h
                      obtain ⟨x17A, x17n, x17c, e17, h⟩ := vS_elim h
                      obtain ⟨x18, e18, h⟩ := vI_elim h
                      refine J.sub ?_ ((((((((Sub.base _).upd e0).upd e13).upd e14).upd e15).upd e16).upd e17).upd e18)
                      clear e0 e13 e14 e15 e16 e17 e18
                      refine J_seq (fun σ w => vB (σ 6) fun x6 => law16_RelocBack.p10 K x6 w) ?_ ?_
                      ·
                        exact sh_sound _ _ _ _ (Eq.mp (by kernel_rfl) h)
                      · intro σ w h
                        obtain ⟨x6, e6, h⟩ := vB_elim h
                        refine J.sub ?_ ((Sub.base _).upd e6)
                        clear e6
                        exact sh_sound _ _ _ _ (Eq.mp (by kernel_rfl) h)

/-! ### hayloft/hayloftlaw16.RelocElse: function 5 -/
abbrev law16_RelocElse.p14 (L0 : Option Addr → Nat → Nat → Option Addr → Nat → Nat → Option Addr → Nat → Nat → Option Addr → Nat → Nat → Int → Int → World → Prop) (K : Value → World → Prop) (x0A : Option Addr) (x0n : Nat) (x0c : Nat) (x7A : Option Addr) (x7n : Nat) (x7c : Nat) (x9A : Option Addr) (x9n : Nat) (x9c : Nat) (x56A : Option Addr) (x56n : Nat) (x56c : Nat) (x57 : Int) (x58 : Int) (w : World) : Prop :=
  L0 x0A x0n x0c x7A x7n x7c x9A x9n x9c x56A x56n x56c x57 (IntKind.wrap .i64 (x58 + (1 : Int))) w
abbrev law16_RelocElse.b1 (L1 : Option Addr → Nat → Nat → Option Addr → Nat → Nat → Option Addr → Nat → Nat → Int → Int → Option Addr → Nat → Nat → Int → Int → World → Prop) (L0 : Option Addr → Nat → Nat → Option Addr → Nat → Nat → Option Addr → Nat → Nat → Option Addr → Nat → Nat → Int → Int → World → Prop) (K : Value → World → Prop) (x0A : Option Addr) (x0n : Nat) (x0c : Nat) (x7A : Option Addr) (x7n : Nat) (x7c : Nat) (x9A : Option Addr) (x9n : Nat) (x9c : Nat) (x11 : Int) (x12 : Int) (x56A : Option Addr) (x56n : Nat) (x56c : Nat) (x57 : Int) (x58 : Int) (w : World) : Prop :=
  condP (decide (x12 < (IntKind.wrap .i64 (x11 + (8 : Int))))) ((0 ≤ (IntKind.wrap .i64 (x11 + (8 : Int))) ∧ (IntKind.wrap .i64 (x11 + (8 : Int))) ≤ ((x0c : Nat) : Int)) ∧ (0 ≤ x11 ∧ x11 ≤ (((IntKind.wrap .i64 (x11 + (8 : Int))).toNat : Nat) : Int)) ∧ CallsE Try.prog 16 #[.slice (slA x0A x11.toNat x0c 1) (((IntKind.wrap .i64 (x11 + (8 : Int))).toNat) - x11.toNat) (x0c - x11.toNat)] w (fun v17 w18 => ∃ (n19 : Int), v17 = .int .u64 n19 ∧ (0 ≤ x12 ∧ x12 < ((x9n : Nat) : Int)) ∧ ∃ (a20 : Addr), x9A = some a20 ∧ canStore w18 (a20.add x12.toNat) ∧ wlet (w18.setCell (a20.add x12.toNat) (.bool (n19 != (0 : Int)))) fun w21 => L1 x0A x0n x0c x7A x7n x7c x9A x9n x9c x11 (IntKind.wrap .i64 (x12 + (1 : Int))) x56A x56n x56c x57 x58 w21)) (law16_RelocElse.p14 L0 K x0A x0n x0c x7A x7n x7c x9A x9n x9c x56A x56n x56c x57 x58 w)
def law16_RelocElse.l1 (L0 : Option Addr → Nat → Nat → Option Addr → Nat → Nat → Option Addr → Nat → Nat → Option Addr → Nat → Nat → Int → Int → World → Prop) (K : Value → World → Prop) (k : Nat) : Option Addr → Nat → Nat → Option Addr → Nat → Nat → Option Addr → Nat → Nat → Int → Int → Option Addr → Nat → Nat → Int → Int → World → Prop :=
  Nat.rec (motive := fun _ => Option Addr → Nat → Nat → Option Addr → Nat → Nat → Option Addr → Nat → Nat → Int → Int → Option Addr → Nat → Nat → Int → Int → World → Prop) (fun _ _ _ _ _ _ _ _ _ _ _ _ _ _ _ _ _ => False) (fun _ ih => law16_RelocElse.b1 ih L0 K) k
theorem law16_RelocElse.l1_succ (L0 : Option Addr → Nat → Nat → Option Addr → Nat → Nat → Option Addr → Nat → Nat → Option Addr → Nat → Nat → Int → Int → World → Prop) (K : Value → World → Prop) (k : Nat) (x0A : Option Addr) (x0n : Nat) (x0c : Nat) (x7A : Option Addr) (x7n : Nat) (x7c : Nat) (x9A : Option Addr) (x9n : Nat) (x9c : Nat) (x11 : Int) (x12 : Int) (x56A : Option Addr) (x56n : Nat) (x56c : Nat) (x57 : Int) (x58 : Int) (w : World) : law16_RelocElse.l1 L0 K (k + 1) x0A x0n x0c x7A x7n x7c x9A x9n x9c x11 x12 x56A x56n x56c x57 x58 w = law16_RelocElse.b1 (law16_RelocElse.l1 L0 K k) L0 K x0A x0n x0c x7A x7n x7c x9A x9n x9c x11 x12 x56A x56n x56c x57 x58 w := rfl
abbrev law16_RelocElse.p13 (L0 : Option Addr → Nat → Nat → Option Addr → Nat → Nat → Option Addr → Nat → Nat → Option Addr → Nat → Nat → Int → Int → World → Prop) (K : Value → World → Prop) (x0A : Option Addr) (x0n : Nat) (x0c : Nat) (x7A : Option Addr) (x7n : Nat) (x7c : Nat) (x9A : Option Addr) (x9n : Nat) (x9c : Nat) (x11 : Int) (x12 : Int) (x56A : Option Addr) (x56n : Nat) (x56c : Nat) (x57 : Int) (x58 : Int) (w : World) : Prop :=
  ∃ k, law16_RelocElse.l1 L0 K k x0A x0n x0c x7A x7n x7c x9A x9n x9c x11 x12 x56A x56n x56c x57 x58 w
abbrev law16_RelocElse.p12 (L0 : Option Addr → Nat → Nat → Option Addr → Nat → Nat → Option Addr → Nat → Nat → Option Addr → Nat → Nat → Int → Int → World → Prop) (K : Value → World → Prop) (x0A : Option Addr) (x0n : Nat) (x0c : Nat) (x7A : Option Addr) (x7n : Nat) (x7c : Nat) (x9A : Option Addr) (x9n : Nat) (x9c : Nat) (x11 : Int) (x56A : Option Addr) (x56n : Nat) (x56c : Nat) (x57 : Int) (x58 : Int) (w : World) : Prop :=
  law16_RelocElse.p13 L0 K x0A x0n x0c x7A x7n x7c x9A x9n x9c x11 x11 x56A x56n x56c x57 x58 w
abbrev law16_RelocElse.p11 (L0 : Option Addr → Nat → Nat → Option Addr → Nat → Nat → Option Addr → Nat → Nat → Option Addr → Nat → Nat → Int → Int → World → Prop) (K : Value → World → Prop) (x0A : Option Addr) (x0n : Nat) (x0c : Nat) (x7A : Option Addr) (x7n : Nat) (x7c : Nat) (x9A : Option Addr) (x9n : Nat) (x9c : Nat) (x56A : Option Addr) (x56n : Nat) (x56c : Nat) (x57 : Int) (x58 : Int) (w : World) : Prop :=
  (0 ≤ x58 ∧ x58 < ((x56n : Nat) : Int)) ∧ ∃ (a15 : Addr), x56A = some a15 ∧ ∃ (n16 : Int), w.cell? (a15.add x58.toNat) = some (.int .i64 n16) ∧ law16_RelocElse.p12 L0 K x0A x0n x0c x7A x7n x7c x9A x9n x9c n16 x56A x56n x56c x57 x58 w
abbrev law16_RelocElse.p21 (L2 : Option Addr → Nat → Nat → Option Addr → Nat → Nat → Option Addr → Nat → Nat → Int → Int → World → Prop) (K : Value → World → Prop) (x0A : Option Addr) (x0n : Nat) (x0c : Nat) (x7A : Option Addr) (x7n : Nat) (x7c : Nat) (x9A : Option Addr) (x9n : Nat) (x9c : Nat) (x81 : Int) (x82 : Int) (w : World) : Prop :=
  L2 x0A x0n x0c x7A x7n x7c x9A x9n x9c x81 (IntKind.wrap .i64 (x82 + (1 : Int))) w
abbrev law16_RelocElse.p20 (L2 : Option Addr → Nat → Nat → Option Addr → Nat → Nat → Option Addr → Nat → Nat → Int → Int → World → Prop) (K : Value → World → Prop) (x0A : Option Addr) (x0n : Nat) (x0c : Nat) (x7A : Option Addr) (x7n : Nat) (x7c : Nat) (x9A : Option Addr) (x9n : Nat) (x9c : Nat) (x81 : Int) (x82 : Int) (x100 : Bool) (w : World) : Prop :=
  condP x100 (K (.bool false) w) (law16_RelocElse.p21 L2 K x0A x0n x0c x7A x7n x7c x9A x9n x9c x81 x82 w)
abbrev law16_RelocElse.p19 (L2 : Option Addr → Nat → Nat → Option Addr → Nat → Nat → Option Addr → Nat → Nat → Int → Int → World → Prop) (K : Value → World → Prop) (x0A : Option Addr) (x0n : Nat) (x0c : Nat) (x7A : Option Addr) (x7n : Nat) (x7c : Nat) (x9A : Option Addr) (x9n : Nat) (x9c : Nat) (x13 : Int) (x81 : Int) (x82 : Int) (w : World) : Prop :=
  (0 ≤ x13 ∧ x13 < ((x9n : Nat) : Int)) ∧ ∃ (a22 : Addr), x9A = some a22 ∧ ∃ (b23 : Bool), w.cell? (a22.add x13.toNat) = some (.bool b23) ∧ condP (!b23) ((0 ≤ x13 ∧ x13 < ((x7n : Nat) : Int)) ∧ ∃ (a24 : Addr), x7A = some a24 ∧ ∃ (n25 : Int), w.cell? (a24.add x13.toNat) = some (.int .u8 n25) ∧ (0 ≤ x13 ∧ x13 < ((x0n : Nat) : Int)) ∧ ∃ (a26 : Addr), x0A = some a26 ∧ ∃ (n27 : Int), w.cell? (a26.add x13.toNat) = some (.int .u8 n27) ∧ law16_RelocElse.p20 L2 K x0A x0n x0c x7A x7n x7c x9A x9n x9c x81 x82 (n25 != n27) w) (law16_RelocElse.p20 L2 K x0A x0n x0c x7A x7n x7c x9A x9n x9c x81 x82 false w)
abbrev law16_RelocElse.p18 (L2 : Option Addr → Nat → Nat → Option Addr → Nat → Nat → Option Addr → Nat → Nat → Int → Int → World → Prop) (K : Value → World → Prop) (x0A : Option Addr) (x0n : Nat) (x0c : Nat) (x7A : Option Addr) (x7n : Nat) (x7c : Nat) (x9A : Option Addr) (x9n : Nat) (x9c : Nat) (x81 : Int) (x82 : Int) (w : World) : Prop :=
  law16_RelocElse.p19 L2 K x0A x0n x0c x7A x7n x7c x9A x9n x9c x82 x81 x82 w
abbrev law16_RelocElse.p22 (K : Value → World → Prop) (w : World) : Prop :=
  K (.bool true) w
abbrev law16_RelocElse.p17 (L2 : Option Addr → Nat → Nat → Option Addr → Nat → Nat → Option Addr → Nat → Nat → Int → Int → World → Prop) (K : Value → World → Prop) (x0A : Option Addr) (x0n : Nat) (x0c : Nat) (x7A : Option Addr) (x7n : Nat) (x7c : Nat) (x9A : Option Addr) (x9n : Nat) (x9c : Nat) (x81 : Int) (x82 : Int) (x83 : Bool) (w : World) : Prop :=
  condP x83 (law16_RelocElse.p18 L2 K x0A x0n x0c x7A x7n x7c x9A x9n x9c x81 x82 w) (law16_RelocElse.p22 K w)
abbrev law16_RelocElse.b2 (L2 : Option Addr → Nat → Nat → Option Addr → Nat → Nat → Option Addr → Nat → Nat → Int → Int → World → Prop) (K : Value → World → Prop) (x0A : Option Addr) (x0n : Nat) (x0c : Nat) (x7A : Option Addr) (x7n : Nat) (x7c : Nat) (x9A : Option Addr) (x9n : Nat) (x9c : Nat) (x81 : Int) (x82 : Int) (w : World) : Prop :=
  law16_RelocElse.p17 L2 K x0A x0n x0c x7A x7n x7c x9A x9n x9c x81 x82 (decide (x82 < x81)) w
def law16_RelocElse.l2 (K : Value → World → Prop) (k : Nat) : Option Addr → Nat → Nat → Option Addr → Nat → Nat → Option Addr → Nat → Nat → Int → Int → World → Prop :=
  Nat.rec (motive := fun _ => Option Addr → Nat → Nat → Option Addr → Nat → Nat → Option Addr → Nat → Nat → Int → Int → World → Prop) (fun _ _ _ _ _ _ _ _ _ _ _ _ => False) (fun _ ih => law16_RelocElse.b2 ih K) k
theorem law16_RelocElse.l2_succ (K : Value → World → Prop) (k : Nat) (x0A : Option Addr) (x0n : Nat) (x0c : Nat) (x7A : Option Addr) (x7n : Nat) (x7c : Nat) (x9A : Option Addr) (x9n : Nat) (x9c : Nat) (x81 : Int) (x82 : Int) (w : World) : law16_RelocElse.l2 K (k + 1) x0A x0n x0c x7A x7n x7c x9A x9n x9c x81 x82 w = law16_RelocElse.b2 (law16_RelocElse.l2 K k) K x0A x0n x0c x7A x7n x7c x9A x9n x9c x81 x82 w := rfl
abbrev law16_RelocElse.p16 (K : Value → World → Prop) (x0A : Option Addr) (x0n : Nat) (x0c : Nat) (x7A : Option Addr) (x7n : Nat) (x7c : Nat) (x9A : Option Addr) (x9n : Nat) (x9c : Nat) (x81 : Int) (x82 : Int) (w : World) : Prop :=
  ∃ k, law16_RelocElse.l2 K k x0A x0n x0c x7A x7n x7c x9A x9n x9c x81 x82 w
abbrev law16_RelocElse.p15 (K : Value → World → Prop) (x0A : Option Addr) (x0n : Nat) (x0c : Nat) (x7A : Option Addr) (x7n : Nat) (x7c : Nat) (x9A : Option Addr) (x9n : Nat) (x9c : Nat) (w : World) : Prop :=
  law16_RelocElse.p16 K x0A x0n x0c x7A x7n x7c x9A x9n x9c ((x0n : Nat) : Int) 0 w
abbrev law16_RelocElse.p10 (L0 : Option Addr → Nat → Nat → Option Addr → Nat → Nat → Option Addr → Nat → Nat → Option Addr → Nat → Nat → Int → Int → World → Prop) (K : Value → World → Prop) (x0A : Option Addr) (x0n : Nat) (x0c : Nat) (x7A : Option Addr) (x7n : Nat) (x7c : Nat) (x9A : Option Addr) (x9n : Nat) (x9c : Nat) (x56A : Option Addr) (x56n : Nat) (x56c : Nat) (x57 : Int) (x58 : Int) (x59 : Bool) (w : World) : Prop :=
  condP x59 (law16_RelocElse.p11 L0 K x0A x0n x0c x7A x7n x7c x9A x9n x9c x56A x56n x56c x57 x58 w) (law16_RelocElse.p15 K x0A x0n x0c x7A x7n x7c x9A x9n x9c w)
abbrev law16_RelocElse.b0 (L0 : Option Addr → Nat → Nat → Option Addr → Nat → Nat → Option Addr → Nat → Nat → Option Addr → Nat → Nat → Int → Int → World → Prop) (K : Value → World → Prop) (x0A : Option Addr) (x0n : Nat) (x0c : Nat) (x7A : Option Addr) (x7n : Nat) (x7c : Nat) (x9A : Option Addr) (x9n : Nat) (x9c : Nat) (x56A : Option Addr) (x56n : Nat) (x56c : Nat) (x57 : Int) (x58 : Int) (w : World) : Prop :=
  law16_RelocElse.p10 L0 K x0A x0n x0c x7A x7n x7c x9A x9n x9c x56A x56n x56c x57 x58 (decide (x58 < x57)) w
def law16_RelocElse.l0 (K : Value → World → Prop) (k : Nat) : Option Addr → Nat → Nat → Option Addr → Nat → Nat → Option Addr → Nat → Nat → Option Addr → Nat → Nat → Int → Int → World → Prop :=
  Nat.rec (motive := fun _ => Option Addr → Nat → Nat → Option Addr → Nat → Nat → Option Addr → Nat → Nat → Option Addr → Nat → Nat → Int → Int → World → Prop) (fun _ _ _ _ _ _ _ _ _ _ _ _ _ _ _ => False) (fun _ ih => law16_RelocElse.b0 ih K) k
theorem law16_RelocElse.l0_succ (K : Value → World → Prop) (k : Nat) (x0A : Option Addr) (x0n : Nat) (x0c : Nat) (x7A : Option Addr) (x7n : Nat) (x7c : Nat) (x9A : Option Addr) (x9n : Nat) (x9c : Nat) (x56A : Option Addr) (x56n : Nat) (x56c : Nat) (x57 : Int) (x58 : Int) (w : World) : law16_RelocElse.l0 K (k + 1) x0A x0n x0c x7A x7n x7c x9A x9n x9c x56A x56n x56c x57 x58 w = law16_RelocElse.b0 (law16_RelocElse.l0 K k) K x0A x0n x0c x7A x7n x7c x9A x9n x9c x56A x56n x56c x57 x58 w := rfl
abbrev law16_RelocElse.p9 (K : Value → World → Prop) (x0A : Option Addr) (x0n : Nat) (x0c : Nat) (x7A : Option Addr) (x7n : Nat) (x7c : Nat) (x9A : Option Addr) (x9n : Nat) (x9c : Nat) (x56A : Option Addr) (x56n : Nat) (x56c : Nat) (x57 : Int) (x58 : Int) (w : World) : Prop :=
  ∃ k, law16_RelocElse.l0 K k x0A x0n x0c x7A x7n x7c x9A x9n x9c x56A x56n x56c x57 x58 w
abbrev law16_RelocElse.p8 (K : Value → World → Prop) (x0A : Option Addr) (x0n : Nat) (x0c : Nat) (x1A : Option Addr) (x1n : Nat) (x1c : Nat) (x7A : Option Addr) (x7n : Nat) (x7c : Nat) (x9A : Option Addr) (x9n : Nat) (x9c : Nat) (w : World) : Prop :=
  law16_RelocElse.p9 K x0A x0n x0c x7A x7n x7c x9A x9n x9c x1A x1n x1c ((x1n : Nat) : Int) 0 w
abbrev law16_RelocElse.p7 (K : Value → World → Prop) (x0A : Option Addr) (x0n : Nat) (x0c : Nat) (x1A : Option Addr) (x1n : Nat) (x1c : Nat) (x7A : Option Addr) (x7n : Nat) (x7c : Nat) (w : World) : Prop :=
  (0 ≤ ((x0n : Nat) : Int) ∧ ((x0n : Nat) : Int) ≤ ((x0n : Nat) : Int) ∧ (1 : Int) * ((x0n : Nat) : Int) ≤ 281474976710656 ∧ ((x0n : Nat) : Int) ≤ 9223372036854775807) ∧ wlet (w.alloc (.cells (madeCells #[.bool false] (((x0n : Nat) : Int).toNat * 1)) 4)) fun w14 => law16_RelocElse.p8 K x0A x0n x0c x1A x1n x1c x7A x7n x7c (some ⟨w.heap.size, 0, none⟩) (((x0n : Nat) : Int).toNat) (((x0n : Nat) : Int).toNat) w14
abbrev law16_RelocElse.p6 (K : Value → World → Prop) (x0A : Option Addr) (x0n : Nat) (x0c : Nat) (x1A : Option Addr) (x1n : Nat) (x1c : Nat) (x7A : Option Addr) (x7n : Nat) (x7c : Nat) (x52 : Bool) (w : World) : Prop :=
  condP x52 (K (.bool false) w) (law16_RelocElse.p7 K x0A x0n x0c x1A x1n x1c x7A x7n x7c w)
abbrev law16_RelocElse.p5 (K : Value → World → Prop) (x0A : Option Addr) (x0n : Nat) (x0c : Nat) (x1A : Option Addr) (x1n : Nat) (x1c : Nat) (x7A : Option Addr) (x7n : Nat) (x7c : Nat) (w : World) : Prop :=
  condP (((x7n : Nat) : Int) != ((x0n : Nat) : Int)) (law16_RelocElse.p6 K x0A x0n x0c x1A x1n x1c x7A x7n x7c true w) (CallsE Try.prog 15 #[.slice x1A x1n x1c, .int .i64 ((x0n : Nat) : Int)] w (fun v28 w29 => ∃ (b30 : Bool), v28 = .bool b30 ∧ law16_RelocElse.p6 K x0A x0n x0c x1A x1n x1c x7A x7n x7c (!b30) w29))
abbrev law16_RelocElse.p4 (K : Value → World → Prop) (x0A : Option Addr) (x0n : Nat) (x0c : Nat) (x1A : Option Addr) (x1n : Nat) (x1c : Nat) (x7A : Option Addr) (x7n : Nat) (x7c : Nat) (x8 : Int) (w : World) : Prop :=
  condP (x8 != (0 : Int)) (K (.bool (((x7n : Nat) : Int) == (0 : Int))) w) (law16_RelocElse.p5 K x0A x0n x0c x1A x1n x1c x7A x7n x7c w)
abbrev law16_RelocElse.p3 (K : Value → World → Prop) (x0A : Option Addr) (x0n : Nat) (x0c : Nat) (x1A : Option Addr) (x1n : Nat) (x1c : Nat) (x5 : Addr) (w : World) : Prop :=
  ∃ (n5 : Int), w.cell? x5 = some (.int .i64 n5) ∧ ∃ (n6 : Int), w.cell? (x5.add 1) = some (.int .i64 n6) ∧ ∃ (n7 : Int), w.cell? (x5.add 2) = some (.int .i64 n7) ∧ CallsE Try.prog 11 #[.slice x0A x0n x0c, .slice x1A x1n x1c, .int .i64 n5, .int .i64 n6, .int .i64 n7] w (fun v8 w9 => ∃ (A10 : Option Addr) (m11 : Nat) (c12 : Nat) (n13 : Int), v8 = .tuple #[.slice A10 m11 c12, .int .i64 n13] ∧ law16_RelocElse.p4 K x0A x0n x0c x1A x1n x1c A10 m11 c12 n13 w9)
abbrev law16_RelocElse.p2 (K : Value → World → Prop) (x0A : Option Addr) (x0n : Nat) (x0c : Nat) (x1A : Option Addr) (x1n : Nat) (x1c : Nat) (x5 : Addr) (x23 : Bool) (w : World) : Prop :=
  condP x23 (K (.bool true) w) (law16_RelocElse.p3 K x0A x0n x0c x1A x1n x1c x5 w)
abbrev law16_RelocElse.p1 (K : Value → World → Prop) (x0A : Option Addr) (x0n : Nat) (x0c : Nat) (x1A : Option Addr) (x1n : Nat) (x1c : Nat) (x5 : Addr) (w : World) : Prop :=
  condP (decide ((2000 : Int) < ((x1n : Nat) : Int))) (law16_RelocElse.p2 K x0A x0n x0c x1A x1n x1c x5 true w) (law16_RelocElse.p2 K x0A x0n x0c x1A x1n x1c x5 (decide ((20000 : Int) < ((x0n : Nat) : Int))) w)
abbrev law16_RelocElse.p0 (K : Value → World → Prop) (x0A : Option Addr) (x0n : Nat) (x0c : Nat) (x1A : Option Addr) (x1n : Nat) (x1c : Nat) (x5 : Addr) (w : World) : Prop :=
  CallsE Try.prog 9 #[] w (fun v2 w3 => ∃ (b4 : Bool), v2 = .bool b4 ∧ condP (!b4) (K (.bool false) w3) (law16_RelocElse.p1 K x0A x0n x0c x1A x1n x1c x5 w3))
abbrev law16_RelocElse.F (q0A : Option Addr) (q0n : Nat) (q0c : Nat) (q1A : Option Addr) (q1n : Nat) (q1c : Nat) (q2_0 : Int) (q2_1 : Int) (q2_2 : Int) (K : Value → World → Prop) (w : World) : Prop :=
  wlet (w.alloc (.cells #[.int .i64 q2_0, .int .i64 q2_1, .int .i64 q2_2] 25)) fun w1 => law16_RelocElse.p0 K q0A q0n q0c q1A q1n q1c (⟨w.heap.size, 0, none⟩) w1
theorem law16_RelocElse.ok {q0A : Option Addr} {q0n : Nat} {q0c : Nat} {q1A : Option Addr} {q1n : Nat} {q1c : Nat} {q2_0 : Int} {q2_1 : Int} {q2_2 : Int} {K : Value → World → Prop} {w : World} (h : law16_RelocElse.F q0A q0n q0c q1A q1n q1c q2_0 q2_1 q2_2 K w) :
    CallsE Try.prog 5 #[.slice q0A q0n q0c, .slice q1A q1n q1c, .agg #[.int .i64 q2_0, .int .i64 q2_1, .int .i64 q2_2]] w K := by
  refine calls_of_J (n := 102) (rs := [.tmp 6]) Try.func5 rfl rfl rfl rfl ?_
  refine J_seq (fun σ w => vS (σ 0) fun x0A x0n x0c => vS (σ 1) fun x1A x1n x1c => vPa (σ 5) fun x5 => law16_RelocElse.p0 K x0A x0n x0c x1A x1n x1c x5 w) ?_ ?_
  ·
    exact sh_sound _ _ _ _ (Eq.mp (by kernel_rfl) h)
  · intro σ w h
    obtain ⟨x0A, x0n, x0c, e0, h⟩ := vS_elim h
    obtain ⟨x1A, x1n, x1c, e1, h⟩ := vS_elim h
    obtain ⟨x5, e5, h⟩ := vPa_elim h
    refine J.sub ?_ ((((Sub.base _).upd e0).upd e1).upd e5)
    clear e0 e1 e5
    refine J_seq (fun σ w => vS (σ 0) fun x0A x0n x0c => vS (σ 1) fun x1A x1n x1c => vPa (σ 5) fun x5 => law16_RelocElse.p1 K x0A x0n x0c x1A x1n x1c x5 w) ?_ ?_
    ·
      exact sh_sound _ _ _ _ (Eq.mp (by kernel_rfl) h)
    · intro σ w h
      obtain ⟨x0A, x0n, x0c, e0, h⟩ := vS_elim h
      obtain ⟨x1A, x1n, x1c, e1, h⟩ := vS_elim h
      obtain ⟨x5, e5, h⟩ := vPa_elim h
      refine J.sub ?_ ((((Sub.base _).upd e0).upd e1).upd e5)
      clear e0 e1 e5
      refine J_seq (fun σ w => vS (σ 0) fun x0A x0n x0c => vS (σ 1) fun x1A x1n x1c => vPa (σ 5) fun x5 => law16_RelocElse.p3 K x0A x0n x0c x1A x1n x1c x5 w) ?_ ?_
      ·
        refine J_seq (fun σ w => vS (σ 0) fun x0A x0n x0c => vS (σ 1) fun x1A x1n x1c => vPa (σ 5) fun x5 => vB (σ 23) fun x23 => law16_RelocElse.p2 K x0A x0n x0c x1A x1n x1c x5 x23 w) ?_ ?_
        ·
          exact sh_sound _ _ _ _ (Eq.mp (by kernel_rfl) h)
        · intro σ w h
          obtain ⟨x0A, x0n, x0c, e0, h⟩ := vS_elim h
          obtain ⟨x1A, x1n, x1c, e1, h⟩ := vS_elim h
          obtain ⟨x5, e5, h⟩ := vPa_elim h
          obtain ⟨x23, e23, h⟩ := vB_elim h
          refine J.sub ?_ (((((Sub.base _).upd e0).upd e1).upd e5).upd e23)
          clear e0 e1 e5 e23
          exact sh_sound _ _ _ _ (Eq.mp (by kernel_rfl) h)
      · intro σ w h
        obtain ⟨x0A, x0n, x0c, e0, h⟩ := vS_elim h
        obtain ⟨x1A, x1n, x1c, e1, h⟩ := vS_elim h
        obtain ⟨x5, e5, h⟩ := vPa_elim h
        refine J.sub ?_ ((((Sub.base _).upd e0).upd e1).upd e5)
        clear e0 e1 e5
        refine J_seq (fun σ w => vS (σ 0) fun x0A x0n x0c => vS (σ 1) fun x1A x1n x1c => vS (σ 7) fun x7A x7n x7c => vI .i64 (σ 8) fun x8 => law16_RelocElse.p4 K x0A x0n x0c x1A x1n x1c x7A x7n x7c x8 w) ?_ ?_
        ·
          exact sh_sound _ _ _ _ (Eq.mp (by kernel_rfl) h)
        · intro σ w h
          obtain ⟨x0A, x0n, x0c, e0, h⟩ := vS_elim h
          obtain ⟨x1A, x1n, x1c, e1, h⟩ := vS_elim h
          obtain ⟨x7A, x7n, x7c, e7, h⟩ := vS_elim h
          obtain ⟨x8, e8, h⟩ := vI_elim h
          refine J.sub ?_ (((((Sub.base _).upd e0).upd e1).upd e7).upd e8)
          clear e0 e1 e7 e8
          refine J_seq (fun σ w => vS (σ 0) fun x0A x0n x0c => vS (σ 1) fun x1A x1n x1c => vS (σ 7) fun x7A x7n x7c => law16_RelocElse.p5 K x0A x0n x0c x1A x1n x1c x7A x7n x7c w) ?_ ?_
          ·
            exact sh_sound _ _ _ _ (Eq.mp (by kernel_rfl) h)
          · intro σ w h
            obtain ⟨x0A, x0n, x0c, e0, h⟩ := vS_elim h
            obtain ⟨x1A, x1n, x1c, e1, h⟩ := vS_elim h
            obtain ⟨x7A, x7n, x7c, e7, h⟩ := vS_elim h
            refine J.sub ?_ ((((Sub.base _).upd e0).upd e1).upd e7)
            clear e0 e1 e7
            refine J_seq (fun σ w => vS (σ 0) fun x0A x0n x0c => vS (σ 1) fun x1A x1n x1c => vS (σ 7) fun x7A x7n x7c => law16_RelocElse.p7 K x0A x0n x0c x1A x1n x1c x7A x7n x7c w) ?_ ?_
            ·
              refine J_seq (fun σ w => vS (σ 0) fun x0A x0n x0c => vS (σ 1) fun x1A x1n x1c => vS (σ 7) fun x7A x7n x7c => vB (σ 52) fun x52 => law16_RelocElse.p6 K x0A x0n x0c x1A x1n x1c x7A x7n x7c x52 w) ?_ ?_
              ·
                exact sh_sound _ _ _ _ (Eq.mp (by kernel_rfl) h)
              · intro σ w h
                obtain ⟨x0A, x0n, x0c, e0, h⟩ := vS_elim h
                obtain ⟨x1A, x1n, x1c, e1, h⟩ := vS_elim h
                obtain ⟨x7A, x7n, x7c, e7, h⟩ := vS_elim h
                obtain ⟨x52, e52, h⟩ := vB_elim h
                refine J.sub ?_ (((((Sub.base _).upd e0).upd e1).upd e7).upd e52)
                clear e0 e1 e7 e52
                exact sh_sound _ _ _ _ (Eq.mp (by kernel_rfl) h)
            · intro σ w h
              obtain ⟨x0A, x0n, x0c, e0, h⟩ := vS_elim h
              obtain ⟨x1A, x1n, x1c, e1, h⟩ := vS_elim h
              obtain ⟨x7A, x7n, x7c, e7, h⟩ := vS_elim h
              refine J.sub ?_ ((((Sub.base _).upd e0).upd e1).upd e7)
              clear e0 e1 e7
              refine J_seq (fun σ w => vS (σ 0) fun x0A x0n x0c => vS (σ 1) fun x1A x1n x1c => vS (σ 7) fun x7A x7n x7c => vS (σ 9) fun x9A x9n x9c => law16_RelocElse.p8 K x0A x0n x0c x1A x1n x1c x7A x7n x7c x9A x9n x9c w) ?_ ?_
              ·
                exact sh_sound _ _ _ _ (Eq.mp (by kernel_rfl) h)
              · intro σ w h
                obtain ⟨x0A, x0n, x0c, e0, h⟩ := vS_elim h
                obtain ⟨x1A, x1n, x1c, e1, h⟩ := vS_elim h
                obtain ⟨x7A, x7n, x7c, e7, h⟩ := vS_elim h
                obtain ⟨x9A, x9n, x9c, e9, h⟩ := vS_elim h
                refine J.sub ?_ (((((Sub.base _).upd e0).upd e1).upd e7).upd e9)
                clear e0 e1 e7 e9
                refine J_seq (fun σ w => vS (σ 0) fun x0A x0n x0c => vS (σ 7) fun x7A x7n x7c => vS (σ 9) fun x9A x9n x9c => law16_RelocElse.p15 K x0A x0n x0c x7A x7n x7c x9A x9n x9c w) ?_ ?_
                ·
                  refine J_seq (fun σ w => vS (σ 0) fun x0A x0n x0c => vS (σ 7) fun x7A x7n x7c => vS (σ 9) fun x9A x9n x9c => vS (σ 56) fun x56A x56n x56c => vI .i64 (σ 57) fun x57 => vI .i64 (σ 58) fun x58 => law16_RelocElse.p9 K x0A x0n x0c x7A x7n x7c x9A x9n x9c x56A x56n x56c x57 x58 w) ?_ ?_
                  ·
                    exact sh_sound _ _ _ _ (Eq.mp (by kernel_rfl) h)
                  · intro σ w h
                    obtain ⟨x0A, x0n, x0c, e0, h⟩ := vS_elim h
                    obtain ⟨x7A, x7n, x7c, e7, h⟩ := vS_elim h
                    obtain ⟨x9A, x9n, x9c, e9, h⟩ := vS_elim h
                    obtain ⟨x56A, x56n, x56c, e56, h⟩ := vS_elim h
                    obtain ⟨x57, e57, h⟩ := vI_elim h
                    obtain ⟨x58, e58, h⟩ := vI_elim h
                    refine J.sub ?_ (((((((Sub.base _).upd e0).upd e7).upd e9).upd e56).upd e57).upd e58)
                    clear e0 e7 e9 e56 e57 e58
                    refine J_block ?_
                    refine J_loop (fun k σ w => vS (σ 0) fun x0A x0n x0c => vS (σ 7) fun x7A x7n x7c => vS (σ 9) fun x9A x9n x9c => vS (σ 56) fun x56A x56n x56c => vI .i64 (σ 57) fun x57 => vI .i64 (σ 58) fun x58 => law16_RelocElse.l0 K k x0A x0n x0c x7A x7n x7c x9A x9n x9c x56A x56n x56c x57 x58 w) (Eq.mp (by kernel_rfl) h) ?_ ?_
                    · intro σ w h
                      obtain ⟨x0A, x0n, x0c, e0, h⟩ := vS_elim h
                      obtain ⟨x7A, x7n, x7c, e7, h⟩ := vS_elim h
                      obtain ⟨x9A, x9n, x9c, e9, h⟩ := vS_elim h
                      obtain ⟨x56A, x56n, x56c, e56, h⟩ := vS_elim h
                      obtain ⟨x57, e57, h⟩ := vI_elim h
                      obtain ⟨x58, e58, h⟩ := vI_elim h
                      exact h
                    · intro k0 σ w h
                      obtain ⟨x0A, x0n, x0c, e0, h⟩ := vS_elim h
                      obtain ⟨x7A, x7n, x7c, e7, h⟩ := vS_elim h
                      obtain ⟨x9A, x9n, x9c, e9, h⟩ := vS_elim h
                      obtain ⟨x56A, x56n, x56c, e56, h⟩ := vS_elim h
                      obtain ⟨x57, e57, h⟩ := vI_elim h
                      obtain ⟨x58, e58, h⟩ := vI_elim h
                      refine J.sub ?_ (((((((Sub.base _).upd e0).upd e7).upd e9).upd e56).upd e57).upd e58)
                      clear e0 e7 e9 e56 e57 e58
                      refine J_seq (fun σ w => vS (σ 0) fun x0A x0n x0c => vS (σ 7) fun x7A x7n x7c => vS (σ 9) fun x9A x9n x9c => vS (σ 56) fun x56A x56n x56c => vI .i64 (σ 57) fun x57 => vI .i64 (σ 58) fun x58 => vB (σ 59) fun x59 => law16_RelocElse.p10 (law16_RelocElse.l0 K k0) K x0A x0n x0c x7A x7n x7c x9A x9n x9c x56A x56n x56c x57 x58 x59 w) ?_ ?_
                      ·
                        exact sh_sound _ _ _ _ (Eq.mp (by kernel_rfl) h)
                      · intro σ w h
                        obtain ⟨x0A, x0n, x0c, e0, h⟩ := vS_elim h
                        obtain ⟨x7A, x7n, x7c, e7, h⟩ := vS_elim h
                        obtain ⟨x9A, x9n, x9c, e9, h⟩ := vS_elim h
                        obtain ⟨x56A, x56n, x56c, e56, h⟩ := vS_elim h
                        obtain ⟨x57, e57, h⟩ := vI_elim h
                        obtain ⟨x58, e58, h⟩ := vI_elim h
                        obtain ⟨x59, e59, h⟩ := vB_elim h
                        refine J.sub ?_ ((((((((Sub.base _).upd e0).upd e7).upd e9).upd e56).upd e57).upd e58).upd e59)
                        clear e0 e7 e9 e56 e57 e58 e59
                        refine J_seq (fun σ w => vS (σ 0) fun x0A x0n x0c => vS (σ 7) fun x7A x7n x7c => vS (σ 9) fun x9A x9n x9c => vS (σ 56) fun x56A x56n x56c => vI .i64 (σ 57) fun x57 => vI .i64 (σ 58) fun x58 => law16_RelocElse.p11 (law16_RelocElse.l0 K k0) K x0A x0n x0c x7A x7n x7c x9A x9n x9c x56A x56n x56c x57 x58 w) ?_ ?_
                        ·
                          exact sh_sound _ _ _ _ (Eq.mp (by kernel_rfl) h)
                        · intro σ w h
                          obtain ⟨x0A, x0n, x0c, e0, h⟩ := vS_elim h
                          obtain ⟨x7A, x7n, x7c, e7, h⟩ := vS_elim h
                          obtain ⟨x9A, x9n, x9c, e9, h⟩ := vS_elim h
                          obtain ⟨x56A, x56n, x56c, e56, h⟩ := vS_elim h
                          obtain ⟨x57, e57, h⟩ := vI_elim h
                          obtain ⟨x58, e58, h⟩ := vI_elim h
                          refine J.sub ?_ (((((((Sub.base _).upd e0).upd e7).upd e9).upd e56).upd e57).upd e58)
                          clear e0 e7 e9 e56 e57 e58
                          refine J_seq (fun σ w => vS (σ 0) fun x0A x0n x0c => vS (σ 7) fun x7A x7n x7c => vS (σ 9) fun x9A x9n x9c => vS (σ 56) fun x56A x56n x56c => vI .i64 (σ 57) fun x57 => vI .i64 (σ 58) fun x58 => law16_RelocElse.p14 (law16_RelocElse.l0 K k0) K x0A x0n x0c x7A x7n x7c x9A x9n x9c x56A x56n x56c x57 x58 w) ?_ ?_
                          ·
                            refine J_block ?_
                            refine J_seq (fun σ w => vS (σ 0) fun x0A x0n x0c => vS (σ 7) fun x7A x7n x7c => vS (σ 9) fun x9A x9n x9c => vI .i64 (σ 11) fun x11 => vS (σ 56) fun x56A x56n x56c => vI .i64 (σ 57) fun x57 => vI .i64 (σ 58) fun x58 => law16_RelocElse.p12 (law16_RelocElse.l0 K k0) K x0A x0n x0c x7A x7n x7c x9A x9n x9c x11 x56A x56n x56c x57 x58 w) ?_ ?_
                            ·
                              exact sh_sound _ _ _ _ (Eq.mp (by kernel_rfl) h)
                            · intro σ w h
                              obtain ⟨x0A, x0n, x0c, e0, h⟩ := vS_elim h
                              obtain ⟨x7A, x7n, x7c, e7, h⟩ := vS_elim h
                              obtain ⟨x9A, x9n, x9c, e9, h⟩ := vS_elim h
                              obtain ⟨x11, e11, h⟩ := vI_elim h
                              obtain ⟨x56A, x56n, x56c, e56, h⟩ := vS_elim h
                              obtain ⟨x57, e57, h⟩ := vI_elim h
                              obtain ⟨x58, e58, h⟩ := vI_elim h
                              refine J.sub ?_ ((((((((Sub.base _).upd e0).upd e7).upd e9).upd e11).upd e56).upd e57).upd e58)
                              clear e0 e7 e9 e11 e56 e57 e58
                              refine J_seq (fun σ w => vS (σ 0) fun x0A x0n x0c => vS (σ 7) fun x7A x7n x7c => vS (σ 9) fun x9A x9n x9c => vI .i64 (σ 11) fun x11 => vI .i64 (σ 12) fun x12 => vS (σ 56) fun x56A x56n x56c => vI .i64 (σ 57) fun x57 => vI .i64 (σ 58) fun x58 => law16_RelocElse.p13 (law16_RelocElse.l0 K k0) K x0A x0n x0c x7A x7n x7c x9A x9n x9c x11 x12 x56A x56n x56c x57 x58 w) ?_ ?_
                              ·
                                exact sh_sound _ _ _ _ (Eq.mp (by kernel_rfl) h)
                              · intro σ w h
                                obtain ⟨x0A, x0n, x0c, e0, h⟩ := vS_elim h
                                obtain ⟨x7A, x7n, x7c, e7, h⟩ := vS_elim h
                                obtain ⟨x9A, x9n, x9c, e9, h⟩ := vS_elim h
                                obtain ⟨x11, e11, h⟩ := vI_elim h
                                obtain ⟨x12, e12, h⟩ := vI_elim h
                                obtain ⟨x56A, x56n, x56c, e56, h⟩ := vS_elim h
                                obtain ⟨x57, e57, h⟩ := vI_elim h
                                obtain ⟨x58, e58, h⟩ := vI_elim h
                                refine J.sub ?_ (((((((((Sub.base _).upd e0).upd e7).upd e9).upd e11).upd e12).upd e56).upd e57).upd e58)
                                clear e0 e7 e9 e11 e12 e56 e57 e58
                                refine J_block ?_
                                refine J_loop (fun k σ w => vS (σ 0) fun x0A x0n x0c => vS (σ 7) fun x7A x7n x7c => vS (σ 9) fun x9A x9n x9c => vI .i64 (σ 11) fun x11 => vI .i64 (σ 12) fun x12 => vS (σ 56) fun x56A x56n x56c => vI .i64 (σ 57) fun x57 => vI .i64 (σ 58) fun x58 => law16_RelocElse.l1 (law16_RelocElse.l0 K k0) K k x0A x0n x0c x7A x7n x7c x9A x9n x9c x11 x12 x56A x56n x56c x57 x58 w) (Eq.mp (by kernel_rfl) h) ?_ ?_
                                · intro σ w h
                                  obtain ⟨x0A, x0n, x0c, e0, h⟩ := vS_elim h
                                  obtain ⟨x7A, x7n, x7c, e7, h⟩ := vS_elim h
                                  obtain ⟨x9A, x9n, x9c, e9, h⟩ := vS_elim h
                                  obtain ⟨x11, e11, h⟩ := vI_elim h
                                  obtain ⟨x12, e12, h⟩ := vI_elim h
                                  obtain ⟨x56A, x56n, x56c, e56, h⟩ := vS_elim h
                                  obtain ⟨x57, e57, h⟩ := vI_elim h
                                  obtain ⟨x58, e58, h⟩ := vI_elim h
                                  exact h
                                · intro k1 σ w h
                                  obtain ⟨x0A, x0n, x0c, e0, h⟩ := vS_elim h
                                  obtain ⟨x7A, x7n, x7c, e7, h⟩ := vS_elim h
                                  obtain ⟨x9A, x9n, x9c, e9, h⟩ := vS_elim h
                                  obtain ⟨x11, e11, h⟩ := vI_elim h
                                  obtain ⟨x12, e12, h⟩ := vI_elim h
                                  obtain ⟨x56A, x56n, x56c, e56, h⟩ := vS_elim h
                                  obtain ⟨x57, e57, h⟩ := vI_elim h
                                  obtain ⟨x58, e58, h⟩ := vI_elim h
                                  refine J.sub ?_ (((((((((Sub.base _).upd e0).upd e7).upd e9).upd e11).upd e12).upd e56).upd e57).upd e58)
                                  clear e0 e7 e9 e11 e12 e56 e57 e58
                                  exact sh_sound _ _ _ _ (Eq.mp (by kernel_rfl) h)
                          · intro σ w h
                            obtain ⟨x0A, x0n, x0c, e0, h⟩ := vS_elim h
                            obtain ⟨x7A, x7n, x7c, e7, h⟩ := vS_elim h
                            obtain ⟨x9A, x9n, x9c, e9, h⟩ := vS_elim h
                            obtain ⟨x56A, x56n, x56c, e56, h⟩ := vS_elim h
                            obtain ⟨x57, e57, h⟩ := vI_elim h
                            obtain ⟨x58, e58, h⟩ := vI_elim h
                            refine J.sub ?_ (((((((Sub.base _).upd e0).upd e7).upd e9).upd e56).upd e57).upd e58)
                            clear e0 e7 e9 e56 e57 e58
                            exact sh_sound _ _ _ _ (Eq.mp (by kernel_rfl) h)
                · intro σ w h
                  obtain ⟨x0A, x0n, x0c, e0, h⟩ := vS_elim h
                  obtain ⟨x7A, x7n, x7c, e7, h⟩ := vS_elim h
                  obtain ⟨x9A, x9n, x9c, e9, h⟩ := vS_elim h
                  refine J.sub ?_ ((((Sub.base _).upd e0).upd e7).upd e9)
                  clear e0 e7 e9
                  refine J_seq (fun σ w => law16_RelocElse.p22 K w) ?_ ?_
                  ·
                    refine J_seq (fun σ w => vS (σ 0) fun x0A x0n x0c => vS (σ 7) fun x7A x7n x7c => vS (σ 9) fun x9A x9n x9c => vI .i64 (σ 81) fun x81 => vI .i64 (σ 82) fun x82 => law16_RelocElse.p16 K x0A x0n x0c x7A x7n x7c x9A x9n x9c x81 x82 w) ?_ ?_
                    ·
                      exact sh_sound _ _ _ _ (Eq.mp (by kernel_rfl) h)
                    · intro σ w h
                      obtain ⟨x0A, x0n, x0c, e0, h⟩ := vS_elim h
                      obtain ⟨x7A, x7n, x7c, e7, h⟩ := vS_elim h
                      obtain ⟨x9A, x9n, x9c, e9, h⟩ := vS_elim h
                      obtain ⟨x81, e81, h⟩ := vI_elim h
                      obtain ⟨x82, e82, h⟩ := vI_elim h
                      refine J.sub ?_ ((((((Sub.base _).upd e0).upd e7).upd e9).upd e81).upd e82)
                      clear e0 e7 e9 e81 e82
                      refine J_block ?_
                      refine J_loop (fun k σ w => vS (σ 0) fun x0A x0n x0c => vS (σ 7) fun x7A x7n x7c => vS (σ 9) fun x9A x9n x9c => vI .i64 (σ 81) fun x81 => vI .i64 (σ 82) fun x82 => law16_RelocElse.l2 K k x0A x0n x0c x7A x7n x7c x9A x9n x9c x81 x82 w) (Eq.mp (by kernel_rfl) h) ?_ ?_
                      · intro σ w h
                        obtain ⟨x0A, x0n, x0c, e0, h⟩ := vS_elim h
                        obtain ⟨x7A, x7n, x7c, e7, h⟩ := vS_elim h
                        obtain ⟨x9A, x9n, x9c, e9, h⟩ := vS_elim h
                        obtain ⟨x81, e81, h⟩ := vI_elim h
                        obtain ⟨x82, e82, h⟩ := vI_elim h
                        exact h
                      · intro k2 σ w h
                        obtain ⟨x0A, x0n, x0c, e0, h⟩ := vS_elim h
                        obtain ⟨x7A, x7n, x7c, e7, h⟩ := vS_elim h
                        obtain ⟨x9A, x9n, x9c, e9, h⟩ := vS_elim h
                        obtain ⟨x81, e81, h⟩ := vI_elim h
                        obtain ⟨x82, e82, h⟩ := vI_elim h
                        refine J.sub ?_ ((((((Sub.base _).upd e0).upd e7).upd e9).upd e81).upd e82)
                        clear e0 e7 e9 e81 e82
                        refine J_seq (fun σ w => vS (σ 0) fun x0A x0n x0c => vS (σ 7) fun x7A x7n x7c => vS (σ 9) fun x9A x9n x9c => vI .i64 (σ 81) fun x81 => vI .i64 (σ 82) fun x82 => vB (σ 83) fun x83 => law16_RelocElse.p17 (law16_RelocElse.l2 K k2) K x0A x0n x0c x7A x7n x7c x9A x9n x9c x81 x82 x83 w) ?_ ?_
                        ·
                          exact sh_sound _ _ _ _ (Eq.mp (by kernel_rfl) h)
                        · intro σ w h
                          obtain ⟨x0A, x0n, x0c, e0, h⟩ := vS_elim h
                          obtain ⟨x7A, x7n, x7c, e7, h⟩ := vS_elim h
                          obtain ⟨x9A, x9n, x9c, e9, h⟩ := vS_elim h
                          obtain ⟨x81, e81, h⟩ := vI_elim h
                          obtain ⟨x82, e82, h⟩ := vI_elim h
                          obtain ⟨x83, e83, h⟩ := vB_elim h
                          refine J.sub ?_ (((((((Sub.base _).upd e0).upd e7).upd e9).upd e81).upd e82).upd e83)
                          clear e0 e7 e9 e81 e82 e83
                          refine J_seq (fun σ w => vS (σ 0) fun x0A x0n x0c => vS (σ 7) fun x7A x7n x7c => vS (σ 9) fun x9A x9n x9c => vI .i64 (σ 81) fun x81 => vI .i64 (σ 82) fun x82 => law16_RelocElse.p18 (law16_RelocElse.l2 K k2) K x0A x0n x0c x7A x7n x7c x9A x9n x9c x81 x82 w) ?_ ?_
                          ·
                            exact sh_sound _ _ _ _ (Eq.mp (by kernel_rfl) h)
                          · intro σ w h
                            obtain ⟨x0A, x0n, x0c, e0, h⟩ := vS_elim h
                            obtain ⟨x7A, x7n, x7c, e7, h⟩ := vS_elim h
                            obtain ⟨x9A, x9n, x9c, e9, h⟩ := vS_elim h
                            obtain ⟨x81, e81, h⟩ := vI_elim h
                            obtain ⟨x82, e82, h⟩ := vI_elim h
                            refine J.sub ?_ ((((((Sub.base _).upd e0).upd e7).upd e9).upd e81).upd e82)
                            clear e0 e7 e9 e81 e82
                            refine J_seq (fun σ w => vS (σ 0) fun x0A x0n x0c => vS (σ 7) fun x7A x7n x7c => vS (σ 9) fun x9A x9n x9c => vI .i64 (σ 81) fun x81 => vI .i64 (σ 82) fun x82 => law16_RelocElse.p21 (law16_RelocElse.l2 K k2) K x0A x0n x0c x7A x7n x7c x9A x9n x9c x81 x82 w) ?_ ?_
                            ·
                              refine J_block ?_
                              refine J_seq (fun σ w => vS (σ 0) fun x0A x0n x0c => vS (σ 7) fun x7A x7n x7c => vS (σ 9) fun x9A x9n x9c => vI .i64 (σ 13) fun x13 => vI .i64 (σ 81) fun x81 => vI .i64 (σ 82) fun x82 => law16_RelocElse.p19 (law16_RelocElse.l2 K k2) K x0A x0n x0c x7A x7n x7c x9A x9n x9c x13 x81 x82 w) ?_ ?_
                              ·
                                exact sh_sound _ _ _ _ (Eq.mp (by kernel_rfl) h)
                              · intro σ w h
                                obtain ⟨x0A, x0n, x0c, e0, h⟩ := vS_elim h
                                obtain ⟨x7A, x7n, x7c, e7, h⟩ := vS_elim h
                                obtain ⟨x9A, x9n, x9c, e9, h⟩ := vS_elim h
                                obtain ⟨x13, e13, h⟩ := vI_elim h
                                obtain ⟨x81, e81, h⟩ := vI_elim h
                                obtain ⟨x82, e82, h⟩ := vI_elim h
                                refine J.sub ?_ (((((((Sub.base _).upd e0).upd e7).upd e9).upd e13).upd e81).upd e82)
                                clear e0 e7 e9 e13 e81 e82
                                refine J_seq (fun σ w => vS (σ 0) fun x0A x0n x0c => vS (σ 7) fun x7A x7n x7c => vS (σ 9) fun x9A x9n x9c => vI .i64 (σ 81) fun x81 => vI .i64 (σ 82) fun x82 => vB (σ 100) fun x100 => law16_RelocElse.p20 (law16_RelocElse.l2 K k2) K x0A x0n x0c x7A x7n x7c x9A x9n x9c x81 x82 x100 w) ?_ ?_
                                ·
                                  exact sh_sound _ _ _ _ (Eq.mp (by kernel_rfl) h)
                                · intro σ w h
                                  obtain ⟨x0A, x0n, x0c, e0, h⟩ := vS_elim h
                                  obtain ⟨x7A, x7n, x7c, e7, h⟩ := vS_elim h
                                  obtain ⟨x9A, x9n, x9c, e9, h⟩ := vS_elim h
                                  obtain ⟨x81, e81, h⟩ := vI_elim h
                                  obtain ⟨x82, e82, h⟩ := vI_elim h
                                  obtain ⟨x100, e100, h⟩ := vB_elim h
                                  refine J.sub ?_ (((((((Sub.base _).upd e0).upd e7).upd e9).upd e81).upd e82).upd e100)
                                  clear e0 e7 e9 e81 e82 e100
                                  exact sh_sound _ _ _ _ (Eq.mp (by kernel_rfl) h)
                            · intro σ w h
                              obtain ⟨x0A, x0n, x0c, e0, h⟩ := vS_elim h
                              obtain ⟨x7A, x7n, x7c, e7, h⟩ := vS_elim h
                              obtain ⟨x9A, x9n, x9c, e9, h⟩ := vS_elim h
                              obtain ⟨x81, e81, h⟩ := vI_elim h
                              obtain ⟨x82, e82, h⟩ := vI_elim h
                              refine J.sub ?_ ((((((Sub.base _).upd e0).upd e7).upd e9).upd e81).upd e82)
                              clear e0 e7 e9 e81 e82
                              exact sh_sound _ _ _ _ (Eq.mp (by kernel_rfl) h)
                  · intro σ w h
                    refine J.sub ?_ (Sub.base _)
                    exact sh_sound _ _ _ _ (Eq.mp (by kernel_rfl) h)

/-! ### hayloft/hayloftlaw16.RelocWrites: function 6 -/
abbrev law16_RelocWrites.p12 (K : Value → World → Prop) (x6 : Bool) (w : World) : Prop :=
  K (.bool x6) w
abbrev law16_RelocWrites.p11 (K : Value → World → Prop) (x0A : Option Addr) (x0n : Nat) (x0c : Nat) (x2A : Option Addr) (x2n : Nat) (x2c : Nat) (x12 : Option Addr) (x13A : Option Addr) (x13n : Nat) (x13c : Nat) (w : World) : Prop :=
  CallsE Try.prog 22 #[.pointer x12] w (fun v40 w41 => ∃ (n42 : Int), v40 = .int .i64 n42 ∧ condP (n42 == (0 : Int)) (CallsE Try.prog 23 #[.pointer x12] w41 (fun v43 w44 => ∃ (n45 : Int), v43 = .int .i64 n45 ∧ condP (n45 == ((x2n : Nat) : Int)) (CallsE Try.prog 14 #[.slice x13A x13n x13c, .slice x0A x0n x0c] w44 (fun v46 w47 => ∃ (b48 : Bool), v46 = .bool b48 ∧ law16_RelocWrites.p12 K b48 w47)) (law16_RelocWrites.p12 K false w44))) (law16_RelocWrites.p12 K false w41))
abbrev law16_RelocWrites.p10 (K : Value → World → Prop) (x0A : Option Addr) (x0n : Nat) (x0c : Nat) (x2A : Option Addr) (x2n : Nat) (x2c : Nat) (x12 : Option Addr) (w : World) : Prop :=
  CallsE Try.prog 21 #[.pointer x12] w (fun v35 w36 => ∃ (A37 : Option Addr) (m38 : Nat) (c39 : Nat), v35 = .slice A37 m38 c39 ∧ law16_RelocWrites.p11 K x0A x0n x0c x2A x2n x2c x12 A37 m38 c39 w36)
abbrev law16_RelocWrites.p9 (K : Value → World → Prop) (x0A : Option Addr) (x0n : Nat) (x0c : Nat) (x2A : Option Addr) (x2n : Nat) (x2c : Nat) (x8A : Option Addr) (x8n : Nat) (x8c : Nat) (w : World) : Prop :=
  CallsE Try.prog 10 #[.slice x8A x8n x8c] w (fun v22 w23 => ∃ (A24 : Option Addr) (m25 : Nat) (c26 : Nat), v22 = .slice A24 m25 c26 ∧ SemJ Try.prog (Builtin.append_ #[22, 22] 22 #[.slice A24 m25 c26, .slice x2A x2n x2c]) (fun v27 w28 => ∃ (A29 : Option Addr) (m30 : Nat) (c31 : Nat), v27 = .slice A29 m30 c31 ∧ CallsE Try.prog 20 #[.slice A29 m30 c31] w28 (fun v32 w33 => ∃ (p34 : Option Addr), v32 = .pointer p34 ∧ law16_RelocWrites.p10 K x0A x0n x0c x2A x2n x2c p34 w33)) w23)
abbrev law16_RelocWrites.p8 (K : Value → World → Prop) (x0A : Option Addr) (x0n : Nat) (x0c : Nat) (x2A : Option Addr) (x2n : Nat) (x2c : Nat) (x8A : Option Addr) (x8n : Nat) (x8c : Nat) (x11 : Int) (w : World) : Prop :=
  condP (x11 != (0 : Int)) (K (.bool true) w) (law16_RelocWrites.p9 K x0A x0n x0c x2A x2n x2c x8A x8n x8c w)
abbrev law16_RelocWrites.p7 (K : Value → World → Prop) (x0A : Option Addr) (x0n : Nat) (x0c : Nat) (x2A : Option Addr) (x2n : Nat) (x2c : Nat) (x8A : Option Addr) (x8n : Nat) (x8c : Nat) (x11 : Int) (x60 : Bool) (w : World) : Prop :=
  condP x60 (K (.bool false) w) (law16_RelocWrites.p8 K x0A x0n x0c x2A x2n x2c x8A x8n x8c x11 w)
abbrev law16_RelocWrites.p6 (K : Value → World → Prop) (x0A : Option Addr) (x0n : Nat) (x0c : Nat) (x1 : Int) (x2A : Option Addr) (x2n : Nat) (x2c : Nat) (x7A : Option Addr) (x7n : Nat) (x7c : Nat) (x8A : Option Addr) (x8n : Nat) (x8c : Nat) (x9 : Int) (x10A : Option Addr) (x10n : Nat) (x10c : Nat) (x11 : Int) (w : World) : Prop :=
  condP (x9 != x11) (law16_RelocWrites.p7 K x0A x0n x0c x2A x2n x2c x8A x8n x8c x11 true w) (CallsE Try.prog 13 #[.slice x8A x8n x8c, .slice x10A x10n x10c] w (fun v49 w50 => ∃ (b51 : Bool), v49 = .bool b51 ∧ condP (!b51) (law16_RelocWrites.p7 K x0A x0n x0c x2A x2n x2c x8A x8n x8c x11 true w50) (CallsE Try.prog 15 #[.slice x7A x7n x7c, .int .i64 x1] w50 (fun v52 w53 => ∃ (b54 : Bool), v52 = .bool b54 ∧ CallsE Try.prog 19 #[.slice x0A x0n x0c, .int .i64 x1] w53 (fun v55 w56 => ∃ (b57 : Bool), v55 = .bool b57 ∧ condP (!(b54 == b57)) (law16_RelocWrites.p7 K x0A x0n x0c x2A x2n x2c x8A x8n x8c x11 true w56) (CallsE Try.prog 14 #[.slice x7A x7n x7c, .slice x0A x0n x0c] w56 (fun v58 w59 => ∃ (b60 : Bool), v58 = .bool b60 ∧ law16_RelocWrites.p7 K x0A x0n x0c x2A x2n x2c x8A x8n x8c x11 (!b60) w59)))))))
abbrev law16_RelocWrites.p5 (K : Value → World → Prop) (x0A : Option Addr) (x0n : Nat) (x0c : Nat) (x1 : Int) (x2A : Option Addr) (x2n : Nat) (x2c : Nat) (x7A : Option Addr) (x7n : Nat) (x7c : Nat) (x8A : Option Addr) (x8n : Nat) (x8c : Nat) (x9 : Int) (w : World) : Prop :=
  CallsE Try.prog 18 #[.slice x0A x0n x0c] w (fun v16 w17 => ∃ (A18 : Option Addr) (m19 : Nat) (c20 : Nat) (n21 : Int), v16 = .tuple #[.slice A18 m19 c20, .int .i64 n21] ∧ law16_RelocWrites.p6 K x0A x0n x0c x1 x2A x2n x2c x7A x7n x7c x8A x8n x8c x9 A18 m19 c20 n21 w17)
abbrev law16_RelocWrites.p4 (K : Value → World → Prop) (x0A : Option Addr) (x0n : Nat) (x0c : Nat) (x1 : Int) (x2A : Option Addr) (x2n : Nat) (x2c : Nat) (x7A : Option Addr) (x7n : Nat) (x7c : Nat) (w : World) : Prop :=
  CallsE Try.prog 17 #[.slice x7A x7n x7c] w (fun v10 w11 => ∃ (A12 : Option Addr) (m13 : Nat) (c14 : Nat) (n15 : Int), v10 = .tuple #[.slice A12 m13 c14, .int .i64 n15] ∧ law16_RelocWrites.p5 K x0A x0n x0c x1 x2A x2n x2c x7A x7n x7c A12 m13 c14 n15 w11)
abbrev law16_RelocWrites.p3 (K : Value → World → Prop) (x0A : Option Addr) (x0n : Nat) (x0c : Nat) (x1 : Int) (x2A : Option Addr) (x2n : Nat) (x2c : Nat) (w : World) : Prop :=
  wlet (w.alloc (.cells #[] 3)) fun w4 => SemJ Try.prog (Builtin.append_ #[23, 23] 23 #[.slice (some ⟨w.heap.size, 0, none⟩) 0 0, .slice x0A x0n x0c]) (fun v5 w6 => ∃ (A7 : Option Addr) (m8 : Nat) (c9 : Nat), v5 = .slice A7 m8 c9 ∧ law16_RelocWrites.p4 K x0A x0n x0c x1 x2A x2n x2c A7 m8 c9 w6) w4
abbrev law16_RelocWrites.p2 (K : Value → World → Prop) (x0A : Option Addr) (x0n : Nat) (x0c : Nat) (x1 : Int) (x2A : Option Addr) (x2n : Nat) (x2c : Nat) (x23 : Bool) (w : World) : Prop :=
  condP x23 (K (.bool true) w) (law16_RelocWrites.p3 K x0A x0n x0c x1 x2A x2n x2c w)
abbrev law16_RelocWrites.p1 (K : Value → World → Prop) (x0A : Option Addr) (x0n : Nat) (x0c : Nat) (x1 : Int) (x2A : Option Addr) (x2n : Nat) (x2c : Nat) (w : World) : Prop :=
  condP (decide ((9000 : Int) < ((x0n : Nat) : Int))) (law16_RelocWrites.p2 K x0A x0n x0c x1 x2A x2n x2c true w) (law16_RelocWrites.p2 K x0A x0n x0c x1 x2A x2n x2c (decide ((1000 : Int) < ((x2n : Nat) : Int))) w)
abbrev law16_RelocWrites.p0 (K : Value → World → Prop) (x0A : Option Addr) (x0n : Nat) (x0c : Nat) (x1 : Int) (x2A : Option Addr) (x2n : Nat) (x2c : Nat) (w : World) : Prop :=
  CallsE Try.prog 9 #[] w (fun v1 w2 => ∃ (b3 : Bool), v1 = .bool b3 ∧ condP (!b3) (K (.bool false) w2) (law16_RelocWrites.p1 K x0A x0n x0c x1 x2A x2n x2c w2))
abbrev law16_RelocWrites.F (q0A : Option Addr) (q0n : Nat) (q0c : Nat) (q1 : Int) (q2A : Option Addr) (q2n : Nat) (q2c : Nat) (K : Value → World → Prop) (w : World) : Prop :=
  law16_RelocWrites.p0 K q0A q0n q0c q1 q2A q2n q2c w
theorem law16_RelocWrites.ok {q0A : Option Addr} {q0n : Nat} {q0c : Nat} {q1 : Int} {q2A : Option Addr} {q2n : Nat} {q2c : Nat} {K : Value → World → Prop} {w : World} (h : law16_RelocWrites.F q0A q0n q0c q1 q2A q2n q2c K w) :
    CallsE Try.prog 6 #[.slice q0A q0n q0c, .int .i64 q1, .slice q2A q2n q2c] w K := by
  refine calls_of_J (n := 85) (rs := [.tmp 6]) Try.func6 rfl rfl rfl rfl ?_
  refine J_seq (fun σ w => vS (σ 0) fun x0A x0n x0c => vI .i64 (σ 1) fun x1 => vS (σ 2) fun x2A x2n x2c => law16_RelocWrites.p0 K x0A x0n x0c x1 x2A x2n x2c w) ?_ ?_
  ·
    exact sh_sound _ _ _ _ (Eq.mp (by kernel_rfl) h)
  · intro σ w h
    obtain ⟨x0A, x0n, x0c, e0, h⟩ := vS_elim h
    obtain ⟨x1, e1, h⟩ := vI_elim h
    obtain ⟨x2A, x2n, x2c, e2, h⟩ := vS_elim h
    refine J.sub ?_ ((((Sub.base _).upd e0).upd e1).upd e2)
    clear e0 e1 e2
    refine J_seq (fun σ w => vS (σ 0) fun x0A x0n x0c => vI .i64 (σ 1) fun x1 => vS (σ 2) fun x2A x2n x2c => law16_RelocWrites.p1 K x0A x0n x0c x1 x2A x2n x2c w) ?_ ?_
    ·
      exact sh_sound _ _ _ _ (Eq.mp (by kernel_rfl) h)
    · intro σ w h
      obtain ⟨x0A, x0n, x0c, e0, h⟩ := vS_elim h
      obtain ⟨x1, e1, h⟩ := vI_elim h
      obtain ⟨x2A, x2n, x2c, e2, h⟩ := vS_elim h
      refine J.sub ?_ ((((Sub.base _).upd e0).upd e1).upd e2)
      clear e0 e1 e2
      refine J_seq (fun σ w => vS (σ 0) fun x0A x0n x0c => vI .i64 (σ 1) fun x1 => vS (σ 2) fun x2A x2n x2c => law16_RelocWrites.p3 K x0A x0n x0c x1 x2A x2n x2c w) ?_ ?_
      ·
        refine J_seq (fun σ w => vS (σ 0) fun x0A x0n x0c => vI .i64 (σ 1) fun x1 => vS (σ 2) fun x2A x2n x2c => vB (σ 23) fun x23 => law16_RelocWrites.p2 K x0A x0n x0c x1 x2A x2n x2c x23 w) ?_ ?_
        ·
          exact sh_sound _ _ _ _ (Eq.mp (by kernel_rfl) h)
        · intro σ w h
          obtain ⟨x0A, x0n, x0c, e0, h⟩ := vS_elim h
          obtain ⟨x1, e1, h⟩ := vI_elim h
          obtain ⟨x2A, x2n, x2c, e2, h⟩ := vS_elim h
          obtain ⟨x23, e23, h⟩ := vB_elim h
          refine J.sub ?_ (((((Sub.base _).upd e0).upd e1).upd e2).upd e23)
          clear e0 e1 e2 e23
          exact sh_sound _ _ _ _ (Eq.mp (by kernel_rfl) h)
      · intro σ w h
        obtain ⟨x0A, x0n, x0c, e0, h⟩ := vS_elim h
        obtain ⟨x1, e1, h⟩ := vI_elim h
        obtain ⟨x2A, x2n, x2c, e2, h⟩ := vS_elim h
        refine J.sub ?_ ((((Sub.base _).upd e0).upd e1).upd e2)
        clear e0 e1 e2
        refine J_seq (fun σ w => vS (σ 0) fun x0A x0n x0c => vI .i64 (σ 1) fun x1 => vS (σ 2) fun x2A x2n x2c => vS (σ 7) fun x7A x7n x7c => law16_RelocWrites.p4 K x0A x0n x0c x1 x2A x2n x2c x7A x7n x7c w) ?_ ?_
        ·
          exact sh_sound _ _ _ _ (Eq.mp (by kernel_rfl) h)
        · intro σ w h
          obtain ⟨x0A, x0n, x0c, e0, h⟩ := vS_elim h
          obtain ⟨x1, e1, h⟩ := vI_elim h
          obtain ⟨x2A, x2n, x2c, e2, h⟩ := vS_elim h
          obtain ⟨x7A, x7n, x7c, e7, h⟩ := vS_elim h
          refine J.sub ?_ (((((Sub.base _).upd e0).upd e1).upd e2).upd e7)
          clear e0 e1 e2 e7
          refine J_seq (fun σ w => vS (σ 0) fun x0A x0n x0c => vI .i64 (σ 1) fun x1 => vS (σ 2) fun x2A x2n x2c => vS (σ 7) fun x7A x7n x7c => vS (σ 8) fun x8A x8n x8c => vI .i64 (σ 9) fun x9 => law16_RelocWrites.p5 K x0A x0n x0c x1 x2A x2n x2c x7A x7n x7c x8A x8n x8c x9 w) ?_ ?_
          ·
            exact sh_sound _ _ _ _ (Eq.mp (by kernel_rfl) h)
          · intro σ w h
            obtain ⟨x0A, x0n, x0c, e0, h⟩ := vS_elim h
            obtain ⟨x1, e1, h⟩ := vI_elim h
            obtain ⟨x2A, x2n, x2c, e2, h⟩ := vS_elim h
            obtain ⟨x7A, x7n, x7c, e7, h⟩ := vS_elim h
            obtain ⟨x8A, x8n, x8c, e8, h⟩ := vS_elim h
            obtain ⟨x9, e9, h⟩ := vI_elim h
            refine J.sub ?_ (((((((Sub.base _).upd e0).upd e1).upd e2).upd e7).upd e8).upd e9)
            clear e0 e1 e2 e7 e8 e9
            refine J_seq (fun σ w => vS (σ 0) fun x0A x0n x0c => vI .i64 (σ 1) fun x1 => vS (σ 2) fun x2A x2n x2c => vS (σ 7) fun x7A x7n x7c => vS (σ 8) fun x8A x8n x8c => vI .i64 (σ 9) fun x9 => vS (σ 10) fun x10A x10n x10c => vI .i64 (σ 11) fun x11 => law16_RelocWrites.p6 K x0A x0n x0c x1 x2A x2n x2c x7A x7n x7c x8A x8n x8c x9 x10A x10n x10c x11 w) ?_ ?_
            ·
              exact sh_sound _ _ _ _ (Eq.mp (by kernel_rfl) h)
            · intro σ w h
              obtain ⟨x0A, x0n, x0c, e0, h⟩ := vS_elim h
              obtain ⟨x1, e1, h⟩ := vI_elim h
              obtain ⟨x2A, x2n, x2c, e2, h⟩ := vS_elim h
              obtain ⟨x7A, x7n, x7c, e7, h⟩ := vS_elim h
              obtain ⟨x8A, x8n, x8c, e8, h⟩ := vS_elim h
              obtain ⟨x9, e9, h⟩ := vI_elim h
              obtain ⟨x10A, x10n, x10c, e10, h⟩ := vS_elim h
              obtain ⟨x11, e11, h⟩ := vI_elim h
              refine J.sub ?_ (((((((((Sub.base _).upd e0).upd e1).upd e2).upd e7).upd e8).upd e9).upd e10).upd e11)
              clear e0 e1 e2 e7 e8 e9 e10 e11
              refine J_seq (fun σ w => vS (σ 0) fun x0A x0n x0c => vS (σ 2) fun x2A x2n x2c => vS (σ 8) fun x8A x8n x8c => vI .i64 (σ 11) fun x11 => law16_RelocWrites.p8 K x0A x0n x0c x2A x2n x2c x8A x8n x8c x11 w) ?_ ?_
              ·
                refine J_seq (fun σ w => vS (σ 0) fun x0A x0n x0c => vS (σ 2) fun x2A x2n x2c => vS (σ 8) fun x8A x8n x8c => vI .i64 (σ 11) fun x11 => vB (σ 60) fun x60 => law16_RelocWrites.p7 K x0A x0n x0c x2A x2n x2c x8A x8n x8c x11 x60 w) ?_ ?_
                ·
                  exact sh_sound _ _ _ _ (Eq.mp (by kernel_rfl) h)
                · intro σ w h
                  obtain ⟨x0A, x0n, x0c, e0, h⟩ := vS_elim h
                  obtain ⟨x2A, x2n, x2c, e2, h⟩ := vS_elim h
                  obtain ⟨x8A, x8n, x8c, e8, h⟩ := vS_elim h
                  obtain ⟨x11, e11, h⟩ := vI_elim h
                  obtain ⟨x60, e60, h⟩ := vB_elim h
                  refine J.sub ?_ ((((((Sub.base _).upd e0).upd e2).upd e8).upd e11).upd e60)
                  clear e0 e2 e8 e11 e60
                  exact sh_sound _ _ _ _ (Eq.mp (by kernel_rfl) h)
              · intro σ w h
                obtain ⟨x0A, x0n, x0c, e0, h⟩ := vS_elim h
                obtain ⟨x2A, x2n, x2c, e2, h⟩ := vS_elim h
                obtain ⟨x8A, x8n, x8c, e8, h⟩ := vS_elim h
                obtain ⟨x11, e11, h⟩ := vI_elim h
                refine J.sub ?_ (((((Sub.base _).upd e0).upd e2).upd e8).upd e11)
                clear e0 e2 e8 e11
                refine J_seq (fun σ w => vS (σ 0) fun x0A x0n x0c => vS (σ 2) fun x2A x2n x2c => vS (σ 8) fun x8A x8n x8c => law16_RelocWrites.p9 K x0A x0n x0c x2A x2n x2c x8A x8n x8c w) ?_ ?_
                ·
                  exact sh_sound _ _ _ _ (Eq.mp (by kernel_rfl) h)
                · intro σ w h
                  obtain ⟨x0A, x0n, x0c, e0, h⟩ := vS_elim h
                  obtain ⟨x2A, x2n, x2c, e2, h⟩ := vS_elim h
                  obtain ⟨x8A, x8n, x8c, e8, h⟩ := vS_elim h
                  refine J.sub ?_ ((((Sub.base _).upd e0).upd e2).upd e8)
                  clear e0 e2 e8
                  refine J_seq (fun σ w => vS (σ 0) fun x0A x0n x0c => vS (σ 2) fun x2A x2n x2c => vP (σ 12) fun x12 => law16_RelocWrites.p10 K x0A x0n x0c x2A x2n x2c x12 w) ?_ ?_
                  ·
                    exact sh_sound _ _ _ _ (Eq.mp (by kernel_rfl) h)
                  · intro σ w h
                    obtain ⟨x0A, x0n, x0c, e0, h⟩ := vS_elim h
                    obtain ⟨x2A, x2n, x2c, e2, h⟩ := vS_elim h
                    obtain ⟨x12, e12, h⟩ := vP_elim h
                    refine J.sub ?_ ((((Sub.base _).upd e0).upd e2).upd e12)
                    clear e0 e2 e12
                    refine J_seq (fun σ w => vS (σ 0) fun x0A x0n x0c => vS (σ 2) fun x2A x2n x2c => vP (σ 12) fun x12 => vS (σ 13) fun x13A x13n x13c => law16_RelocWrites.p11 K x0A x0n x0c x2A x2n x2c x12 x13A x13n x13c w) ?_ ?_
                    ·
                      exact sh_sound _ _ _ _ (Eq.mp (by kernel_rfl) h)
                    · intro σ w h
                      obtain ⟨x0A, x0n, x0c, e0, h⟩ := vS_elim h
                      obtain ⟨x2A, x2n, x2c, e2, h⟩ := vS_elim h
                      obtain ⟨x12, e12, h⟩ := vP_elim h
                      obtain ⟨x13A, x13n, x13c, e13, h⟩ := vS_elim h
                      refine J.sub ?_ (((((Sub.base _).upd e0).upd e2).upd e12).upd e13)
                      clear e0 e2 e12 e13
                      refine J_seq (fun σ w => vB (σ 6) fun x6 => law16_RelocWrites.p12 K x6 w) ?_ ?_
                      ·
                        exact sh_sound _ _ _ _ (Eq.mp (by kernel_rfl) h)
                      · intro σ w h
                        obtain ⟨x6, e6, h⟩ := vB_elim h
                        refine J.sub ?_ ((Sub.base _).upd e6)
                        clear e6
                        exact sh_sound _ _ _ _ (Eq.mp (by kernel_rfl) h)

/-! ### hayloft/hayloftlaw16.RelocReads: function 7 -/
abbrev law16_RelocReads.p4 (K : Value → World → Prop) (x2 : Bool) (w : World) : Prop :=
  K (.bool x2) w
abbrev law16_RelocReads.p3 (K : Value → World → Prop) (x3 : Option Addr) (x4 : Addr) (x5A : Option Addr) (x5n : Nat) (x5c : Nat) (x6A : Option Addr) (x6n : Nat) (x6c : Nat) (w : World) : Prop :=
  ∃ (S23 : Array Obj → Prop), S23 w.heap ∧ CallsE Try.prog 14 #[.slice x5A x5n x5c, .slice x6A x6n x6c] w (fun v24 w25 => ∃ (b26 : Bool), v24 = .bool b26 ∧ S23 w25.heap ∧ condP b26 (∃ (a27 : Addr), some x4 = some a27 ∧ ∃ (n28 : Int), (∀ w' : World, S23 w'.heap → w'.cell? (a27.add 1) = some (.int .i64 n28)) ∧ CallsE Try.prog 22 #[.pointer x3] w25 (fun v29 w30 => ∃ (n31 : Int), v29 = .int .i64 n31 ∧ S23 w30.heap ∧ condP (n31 == n28) (CallsE Try.prog 23 #[.pointer x3] w30 (fun v32 w33 => ∃ (n34 : Int), v32 = .int .i64 n34 ∧ S23 w33.heap ∧ CallsE Try.prog 25 #[.pointer (some x4)] w33 (fun v35 w36 => ∃ (n37 : Int), v35 = .int .i64 n37 ∧ S23 w36.heap ∧ law16_RelocReads.p4 K (n34 == n37) w36))) (law16_RelocReads.p4 K false w30))) (law16_RelocReads.p4 K false w25))
abbrev law16_RelocReads.p2 (K : Value → World → Prop) (x3 : Option Addr) (x4 : Addr) (w : World) : Prop :=
  CallsE Try.prog 21 #[.pointer x3] w (fun v13 w14 => ∃ (A15 : Option Addr) (m16 : Nat) (c17 : Nat), v13 = .slice A15 m16 c17 ∧ CallsE Try.prog 24 #[.pointer (some x4)] w14 (fun v18 w19 => ∃ (A20 : Option Addr) (m21 : Nat) (c22 : Nat), v18 = .slice A20 m21 c22 ∧ law16_RelocReads.p3 K x3 x4 A15 m16 c17 A20 m21 c22 w19))
abbrev law16_RelocReads.p1 (K : Value → World → Prop) (x0A : Option Addr) (x0n : Nat) (x0c : Nat) (w : World) : Prop :=
  CallsE Try.prog 20 #[.slice x0A x0n x0c] w (fun v4 w5 => ∃ (p6 : Option Addr), v4 = .pointer p6 ∧ CallsE Try.prog 10 #[.slice x0A x0n x0c] w5 (fun v7 w8 => ∃ (A9 : Option Addr) (m10 : Nat) (c11 : Nat), v7 = .slice A9 m10 c11 ∧ wlet (w8.alloc (.cells #[.slice A9 m10 c11, .int .i64 0] 53)) fun w12 => law16_RelocReads.p2 K p6 (⟨w8.heap.size, 0, none⟩) w12))
abbrev law16_RelocReads.p0 (K : Value → World → Prop) (x0A : Option Addr) (x0n : Nat) (x0c : Nat) (w : World) : Prop :=
  CallsE Try.prog 9 #[] w (fun v1 w2 => ∃ (b3 : Bool), v1 = .bool b3 ∧ condP (!b3) (K (.bool false) w2) (law16_RelocReads.p1 K x0A x0n x0c w2))
abbrev law16_RelocReads.F (q0A : Option Addr) (q0n : Nat) (q0c : Nat) (K : Value → World → Prop) (w : World) : Prop :=
  law16_RelocReads.p0 K q0A q0n q0c w
theorem law16_RelocReads.ok {q0A : Option Addr} {q0n : Nat} {q0c : Nat} {K : Value → World → Prop} {w : World} (h : law16_RelocReads.F q0A q0n q0c K w) :
    CallsE Try.prog 7 #[.slice q0A q0n q0c] w K := by
  refine calls_of_J (n := 38) (rs := [.tmp 2]) Try.func7 rfl rfl rfl rfl ?_
  refine J_seq (fun σ w => vS (σ 0) fun x0A x0n x0c => law16_RelocReads.p0 K x0A x0n x0c w) ?_ ?_
  ·
    exact sh_sound _ _ _ _ (Eq.mp (by kernel_rfl) h)
  · intro σ w h
    obtain ⟨x0A, x0n, x0c, e0, h⟩ := vS_elim h
    refine J.sub ?_ ((Sub.base _).upd e0)
    clear e0
    refine J_seq (fun σ w => vS (σ 0) fun x0A x0n x0c => law16_RelocReads.p1 K x0A x0n x0c w) ?_ ?_
    ·
      exact sh_sound _ _ _ _ (Eq.mp (by kernel_rfl) h)
    · intro σ w h
      obtain ⟨x0A, x0n, x0c, e0, h⟩ := vS_elim h
      refine J.sub ?_ ((Sub.base _).upd e0)
      clear e0
      refine J_seq (fun σ w => vP (σ 3) fun x3 => vPa (σ 4) fun x4 => law16_RelocReads.p2 K x3 x4 w) ?_ ?_
      ·
        exact sh_sound _ _ _ _ (Eq.mp (by kernel_rfl) h)
      · intro σ w h
        obtain ⟨x3, e3, h⟩ := vP_elim h
        obtain ⟨x4, e4, h⟩ := vPa_elim h
        refine J.sub ?_ (((Sub.base _).upd e3).upd e4)
        clear e3 e4
        refine J_seq (fun σ w => vP (σ 3) fun x3 => vPa (σ 4) fun x4 => vS (σ 5) fun x5A x5n x5c => vS (σ 6) fun x6A x6n x6c => law16_RelocReads.p3 K x3 x4 x5A x5n x5c x6A x6n x6c w) ?_ ?_
        ·
          exact sh_sound _ _ _ _ (Eq.mp (by kernel_rfl) h)
        · intro σ w h
          obtain ⟨x3, e3, h⟩ := vP_elim h
          obtain ⟨x4, e4, h⟩ := vPa_elim h
          obtain ⟨x5A, x5n, x5c, e5, h⟩ := vS_elim h
          obtain ⟨x6A, x6n, x6c, e6, h⟩ := vS_elim h
          refine J.sub ?_ (((((Sub.base _).upd e3).upd e4).upd e5).upd e6)
          clear e3 e4 e5 e6
          refine J_seq (fun σ w => vB (σ 2) fun x2 => law16_RelocReads.p4 K x2 w) ?_ ?_
          ·
            exact J_held [] [(0, 0), (1, 0), (2, 2), (3, 0), (4, 0), (6, 0), (7, 0), (8, 0), (9, 1), (5, 2), (10, 0), (11, 0), (12, 0), (13, 0), (15, 0), (14, 2), (16, 2), (17, 0), (18, 0), (19, 0)] (by kernel_rfl) (Eq.mp (by kernel_rfl) h)
          · intro σ w h
            obtain ⟨x2, e2, h⟩ := vB_elim h
            refine J.sub ?_ ((Sub.base _).upd e2)
            clear e2
            exact sh_sound _ _ _ _ (Eq.mp (by kernel_rfl) h)

/-! ### hayloft/hayloftlaw16.RelocOne: function 8 -/
abbrev law16_RelocOne.p6 (K : Value → World → Prop) (x2 : Bool) (w : World) : Prop :=
  K (.bool x2) w
abbrev law16_RelocOne.p5 (K : Value → World → Prop) (x0A : Option Addr) (x0n : Nat) (x0c : Nat) (x3 : Option Addr) (x5A : Option Addr) (x5n : Nat) (x5c : Nat) (x6 : Int) (w : World) : Prop :=
  condP (x6 == (0 : Int)) (CallsE Try.prog 23 #[.pointer x3] w (fun v21 w22 => ∃ (n23 : Int), v21 = .int .i64 n23 ∧ (0 ≤ (IntKind.wrap .i64 (((x0n : Nat) : Int) - n23)) ∧ (IntKind.wrap .i64 (((x0n : Nat) : Int) - n23)) ≤ ((x0c : Nat) : Int)) ∧ CallsE Try.prog 13 #[.slice x5A x5n x5c, .slice (slA x0A 0 x0c 1) (((IntKind.wrap .i64 (((x0n : Nat) : Int) - n23)).toNat) - 0) (x0c - 0)] w22 (fun v24 w25 => ∃ (b26 : Bool), v24 = .bool b26 ∧ law16_RelocOne.p6 K b26 w25))) (law16_RelocOne.p6 K false w)
abbrev law16_RelocOne.p4 (K : Value → World → Prop) (x0A : Option Addr) (x0n : Nat) (x0c : Nat) (x3 : Option Addr) (x4A : Option Addr) (x4n : Nat) (x4c : Nat) (w : World) : Prop :=
  CallsE Try.prog 17 #[.slice x4A x4n x4c] w (fun v15 w16 => ∃ (A17 : Option Addr) (m18 : Nat) (c19 : Nat) (n20 : Int), v15 = .tuple #[.slice A17 m18 c19, .int .i64 n20] ∧ law16_RelocOne.p5 K x0A x0n x0c x3 A17 m18 c19 n20 w16)
abbrev law16_RelocOne.p3 (K : Value → World → Prop) (x0A : Option Addr) (x0n : Nat) (x0c : Nat) (x3 : Option Addr) (x4A : Option Addr) (x4n : Nat) (x4c : Nat) (w : World) : Prop :=
  CallsE Try.prog 22 #[.pointer x3] w (fun v12 w13 => ∃ (n14 : Int), v12 = .int .i64 n14 ∧ condP (n14 != (0 : Int)) (K (.bool (((x4n : Nat) : Int) == (0 : Int))) w13) (law16_RelocOne.p4 K x0A x0n x0c x3 x4A x4n x4c w13))
abbrev law16_RelocOne.p2 (K : Value → World → Prop) (x0A : Option Addr) (x0n : Nat) (x0c : Nat) (x3 : Option Addr) (w : World) : Prop :=
  CallsE Try.prog 21 #[.pointer x3] w (fun v7 w8 => ∃ (A9 : Option Addr) (m10 : Nat) (c11 : Nat), v7 = .slice A9 m10 c11 ∧ law16_RelocOne.p3 K x0A x0n x0c x3 A9 m10 c11 w8)
abbrev law16_RelocOne.p1 (K : Value → World → Prop) (x0A : Option Addr) (x0n : Nat) (x0c : Nat) (w : World) : Prop :=
  CallsE Try.prog 20 #[.slice x0A x0n x0c] w (fun v4 w5 => ∃ (p6 : Option Addr), v4 = .pointer p6 ∧ law16_RelocOne.p2 K x0A x0n x0c p6 w5)
abbrev law16_RelocOne.p0 (K : Value → World → Prop) (x0A : Option Addr) (x0n : Nat) (x0c : Nat) (w : World) : Prop :=
  CallsE Try.prog 9 #[] w (fun v1 w2 => ∃ (b3 : Bool), v1 = .bool b3 ∧ condP (!b3) (K (.bool false) w2) (law16_RelocOne.p1 K x0A x0n x0c w2))
abbrev law16_RelocOne.F (q0A : Option Addr) (q0n : Nat) (q0c : Nat) (K : Value → World → Prop) (w : World) : Prop :=
  law16_RelocOne.p0 K q0A q0n q0c w
theorem law16_RelocOne.ok {q0A : Option Addr} {q0n : Nat} {q0c : Nat} {K : Value → World → Prop} {w : World} (h : law16_RelocOne.F q0A q0n q0c K w) :
    CallsE Try.prog 8 #[.slice q0A q0n q0c] w K := by
  refine calls_of_J (n := 37) (rs := [.tmp 2]) Try.func8 rfl rfl rfl rfl ?_
  refine J_seq (fun σ w => vS (σ 0) fun x0A x0n x0c => law16_RelocOne.p0 K x0A x0n x0c w) ?_ ?_
  ·
    exact sh_sound _ _ _ _ (Eq.mp (by kernel_rfl) h)
  · intro σ w h
    obtain ⟨x0A, x0n, x0c, e0, h⟩ := vS_elim h
    refine J.sub ?_ ((Sub.base _).upd e0)
    clear e0
    refine J_seq (fun σ w => vS (σ 0) fun x0A x0n x0c => law16_RelocOne.p1 K x0A x0n x0c w) ?_ ?_
    ·
      exact sh_sound _ _ _ _ (Eq.mp (by kernel_rfl) h)
    · intro σ w h
      obtain ⟨x0A, x0n, x0c, e0, h⟩ := vS_elim h
      refine J.sub ?_ ((Sub.base _).upd e0)
      clear e0
      refine J_seq (fun σ w => vS (σ 0) fun x0A x0n x0c => vP (σ 3) fun x3 => law16_RelocOne.p2 K x0A x0n x0c x3 w) ?_ ?_
      ·
        exact sh_sound _ _ _ _ (Eq.mp (by kernel_rfl) h)
      · intro σ w h
        obtain ⟨x0A, x0n, x0c, e0, h⟩ := vS_elim h
        obtain ⟨x3, e3, h⟩ := vP_elim h
        refine J.sub ?_ (((Sub.base _).upd e0).upd e3)
        clear e0 e3
        refine J_seq (fun σ w => vS (σ 0) fun x0A x0n x0c => vP (σ 3) fun x3 => vS (σ 4) fun x4A x4n x4c => law16_RelocOne.p3 K x0A x0n x0c x3 x4A x4n x4c w) ?_ ?_
        ·
          exact sh_sound _ _ _ _ (Eq.mp (by kernel_rfl) h)
        · intro σ w h
          obtain ⟨x0A, x0n, x0c, e0, h⟩ := vS_elim h
          obtain ⟨x3, e3, h⟩ := vP_elim h
          obtain ⟨x4A, x4n, x4c, e4, h⟩ := vS_elim h
          refine J.sub ?_ ((((Sub.base _).upd e0).upd e3).upd e4)
          clear e0 e3 e4
          refine J_seq (fun σ w => vS (σ 0) fun x0A x0n x0c => vP (σ 3) fun x3 => vS (σ 4) fun x4A x4n x4c => law16_RelocOne.p4 K x0A x0n x0c x3 x4A x4n x4c w) ?_ ?_
          ·
            exact sh_sound _ _ _ _ (Eq.mp (by kernel_rfl) h)
          · intro σ w h
            obtain ⟨x0A, x0n, x0c, e0, h⟩ := vS_elim h
            obtain ⟨x3, e3, h⟩ := vP_elim h
            obtain ⟨x4A, x4n, x4c, e4, h⟩ := vS_elim h
            refine J.sub ?_ ((((Sub.base _).upd e0).upd e3).upd e4)
            clear e0 e3 e4
            refine J_seq (fun σ w => vS (σ 0) fun x0A x0n x0c => vP (σ 3) fun x3 => vS (σ 5) fun x5A x5n x5c => vI .i64 (σ 6) fun x6 => law16_RelocOne.p5 K x0A x0n x0c x3 x5A x5n x5c x6 w) ?_ ?_
            ·
              exact sh_sound _ _ _ _ (Eq.mp (by kernel_rfl) h)
            · intro σ w h
              obtain ⟨x0A, x0n, x0c, e0, h⟩ := vS_elim h
              obtain ⟨x3, e3, h⟩ := vP_elim h
              obtain ⟨x5A, x5n, x5c, e5, h⟩ := vS_elim h
              obtain ⟨x6, e6, h⟩ := vI_elim h
              refine J.sub ?_ (((((Sub.base _).upd e0).upd e3).upd e5).upd e6)
              clear e0 e3 e5 e6
              refine J_seq (fun σ w => vB (σ 2) fun x2 => law16_RelocOne.p6 K x2 w) ?_ ?_
              ·
                exact sh_sound _ _ _ _ (Eq.mp (by kernel_rfl) h)
              · intro σ w h
                obtain ⟨x2, e2, h⟩ := vB_elim h
                refine J.sub ?_ ((Sub.base _).upd e2)
                clear e2
                exact sh_sound _ _ _ _ (Eq.mp (by kernel_rfl) h)

/-! ### hayloft/hayloftlaw16.alive: function 9 -/
abbrev law16_alive.p3 (K : Value → World → Prop) (x0 : Bool) (w : World) : Prop :=
  K (.bool x0) w
abbrev law16_alive.p2 (K : Value → World → Prop) (x1A : Option Addr) (x1n : Nat) (x1c : Nat) (x2 : Int) (x3A : Option Addr) (x3n : Nat) (x3c : Nat) (x4 : Int) (w : World) : Prop :=
  condP (x2 == (0 : Int)) (∃ (bs20 : List UInt8), bytesAt w x1A x1n bs20 ∧ condP ((⟨bs20.toArray⟩ : ByteArray).toList == (⟨#[3, 0, 0, 1]⟩ : ByteArray).toList) (wlet (w.alloc (.cells #[.int .i64 0, .int .i64 8, .int .i64 24] 3)) fun w21 => CallsE Try.prog 15 #[.slice (some ⟨w.heap.size, 0, none⟩) 3 3, .int .i64 31] w21 (fun v22 w23 => ∃ (b24 : Bool), v22 = .bool b24 ∧ condP (!b24) (wlet (w23.alloc (.cells #[.int .i64 0, .int .i64 8, .int .i64 24] 3)) fun w25 => CallsE Try.prog 15 #[.slice (some ⟨w23.heap.size, 0, none⟩) 3 3, .int .i64 32] w25 (fun v26 w27 => ∃ (b28 : Bool), v26 = .bool b28 ∧ condP b28 (condP (x4 == (0 : Int)) (CallsE Try.prog 16 #[.slice x3A x3n x3c] w27 (fun v29 w30 => ∃ (n31 : Int), v29 = .int .u64 n31 ∧ law16_alive.p3 K (n31 == (556 : Int)) w30)) (law16_alive.p3 K false w27)) (law16_alive.p3 K false w27))) (law16_alive.p3 K false w23))) (law16_alive.p3 K false w)) (law16_alive.p3 K false w)
abbrev law16_alive.p1 (K : Value → World → Prop) (x1A : Option Addr) (x1n : Nat) (x1c : Nat) (x2 : Int) (w : World) : Prop :=
  CallsE Try.prog 26 #[.int .u64 300, .int .i64 8] w (fun v8 w9 => ∃ (A10 : Option Addr) (m11 : Nat) (c12 : Nat), v8 = .slice A10 m11 c12 ∧ wlet (w9.alloc (.cells #[.int .i64 0] 3)) fun w13 => CallsE Try.prog 11 #[.slice A10 m11 c12, .slice (some ⟨w9.heap.size, 0, none⟩) 1 1, .int .i64 256, .int .i64 512, .int .i64 256] w13 (fun v14 w15 => ∃ (A16 : Option Addr) (m17 : Nat) (c18 : Nat) (n19 : Int), v14 = .tuple #[.slice A16 m17 c18, .int .i64 n19] ∧ law16_alive.p2 K x1A x1n x1c x2 A16 m17 c18 n19 w15))
abbrev law16_alive.p0 (K : Value → World → Prop) (w : World) : Prop :=
  wlet (w.alloc (.cells #[.int .i64 0, .int .i64 8, .int .i64 24] 3)) fun w1 => CallsE Try.prog 17 #[.slice (some ⟨w.heap.size, 0, none⟩) 3 3] w1 (fun v2 w3 => ∃ (A4 : Option Addr) (m5 : Nat) (c6 : Nat) (n7 : Int), v2 = .tuple #[.slice A4 m5 c6, .int .i64 n7] ∧ law16_alive.p1 K A4 m5 c6 n7 w3)
abbrev law16_alive.F (K : Value → World → Prop) (w : World) : Prop :=
  law16_alive.p0 K w
theorem law16_alive.ok {K : Value → World → Prop} {w : World} (h : law16_alive.F K w) :
    CallsE Try.prog 9 #[] w K := by
  refine calls_of_J (n := 41) (rs := [.tmp 0]) Try.func9 rfl rfl rfl rfl ?_
  refine J_seq (fun σ w => law16_alive.p0 K w) ?_ ?_
  ·
    exact sh_sound _ _ _ _ (Eq.mp (by kernel_rfl) h)
  · intro σ w h
    refine J.sub ?_ (Sub.base _)
    refine J_seq (fun σ w => vS (σ 1) fun x1A x1n x1c => vI .i64 (σ 2) fun x2 => law16_alive.p1 K x1A x1n x1c x2 w) ?_ ?_
    ·
      exact sh_sound _ _ _ _ (Eq.mp (by kernel_rfl) h)
    · intro σ w h
      obtain ⟨x1A, x1n, x1c, e1, h⟩ := vS_elim h
      obtain ⟨x2, e2, h⟩ := vI_elim h
      refine J.sub ?_ (((Sub.base _).upd e1).upd e2)
      clear e1 e2
      refine J_seq (fun σ w => vS (σ 1) fun x1A x1n x1c => vI .i64 (σ 2) fun x2 => vS (σ 3) fun x3A x3n x3c => vI .i64 (σ 4) fun x4 => law16_alive.p2 K x1A x1n x1c x2 x3A x3n x3c x4 w) ?_ ?_
      ·
        exact sh_sound _ _ _ _ (Eq.mp (by kernel_rfl) h)
      · intro σ w h
        obtain ⟨x1A, x1n, x1c, e1, h⟩ := vS_elim h
        obtain ⟨x2, e2, h⟩ := vI_elim h
        obtain ⟨x3A, x3n, x3c, e3, h⟩ := vS_elim h
        obtain ⟨x4, e4, h⟩ := vI_elim h
        refine J.sub ?_ (((((Sub.base _).upd e1).upd e2).upd e3).upd e4)
        clear e1 e2 e3 e4
        refine J_seq (fun σ w => vB (σ 0) fun x0 => law16_alive.p3 K x0 w) ?_ ?_
        ·
          exact sh_sound _ _ _ _ (Eq.mp (by kernel_rfl) h)
        · intro σ w h
          obtain ⟨x0, e0, h⟩ := vB_elim h
          refine J.sub ?_ ((Sub.base _).upd e0)
          clear e0
          exact sh_sound _ _ _ _ (Eq.mp (by kernel_rfl) h)

/-! ### hayloft/hayloftref01.Copy: function 10 -/
abbrev ref01_Copy.F (q0A : Option Addr) (q0n : Nat) (q0c : Nat) (K : Value → World → Prop) (w : World) : Prop :=
  wlet (w.alloc (.cells #[] 5)) fun w1 => SemJ Try.prog (Builtin.append_ #[22, 22] 22 #[.slice (some ⟨w.heap.size, 0, none⟩) 0 0, .slice q0A q0n q0c]) (fun v2 w3 => ∃ (A4 : Option Addr) (m5 : Nat) (c6 : Nat), v2 = .slice A4 m5 c6 ∧ K (.slice A4 m5 c6) w3) w1
theorem ref01_Copy.ok {q0A : Option Addr} {q0n : Nat} {q0c : Nat} {K : Value → World → Prop} {w : World} (h : ref01_Copy.F q0A q0n q0c K w) :
    CallsE Try.prog 10 #[.slice q0A q0n q0c] w K := by
  refine calls_of_J (n := 6) (rs := [.tmp 2]) Try.func10 rfl rfl rfl rfl ?_
  exact sh_sound _ _ _ _ (Eq.mp (by kernel_rfl) h)

/-! ### hayloft/reloc.Apply: function 11 -/
abbrev reloc_Apply.p13 (L0 : Int → Int → Int → Option Addr → Nat → Nat → Int → Option Addr → Nat → Nat → Int → Int → World → Prop) (K : Value → World → Prop) (x2 : Int) (x3 : Int) (x4 : Int) (x12A : Option Addr) (x12n : Nat) (x12c : Nat) (x13 : Int) (x44A : Option Addr) (x44n : Nat) (x44c : Nat) (x45 : Int) (x46 : Int) (w : World) : Prop :=
  L0 x2 x3 x4 x12A x12n x12c x13 x44A x44n x44c x45 (IntKind.wrap .i64 (x46 + (1 : Int))) w
abbrev reloc_Apply.p15 (K : Value → World → Prop) (x12A : Option Addr) (x12n : Nat) (x12c : Nat) (x13 : Int) (w : World) : Prop :=
  condP (x13 != (0 : Int)) (K (.tuple #[.slice none 0 0, .int .i64 x13]) w) (K (.tuple #[.slice x12A x12n x12c, .int .i64 0]) w)
abbrev reloc_Apply.p16 (L0 : Int → Int → Int → Option Addr → Nat → Nat → Int → Option Addr → Nat → Nat → Int → Int → World → Prop) (K : Value → World → Prop) (x2 : Int) (x3 : Int) (x4 : Int) (x12A : Option Addr) (x12n : Nat) (x12c : Nat) (x13 : Int) (x16A : Option Addr) (x16n : Nat) (x16c : Nat) (x17 : Int) (x44A : Option Addr) (x44n : Nat) (x44c : Nat) (x45 : Int) (x46 : Int) (w : World) : Prop :=
  CallsE Try.prog 26 #[.int .u64 (IntKind.wrap .u64 ((IntKind.wrap .u64 (x17 - (IntKind.wrap .u64 x2))) + (IntKind.wrap .u64 x3))), .int .i64 8] w (fun v18 w19 => ∃ (A20 : Option Addr) (m21 : Nat) (c22 : Nat), v18 = .slice A20 m21 c22 ∧ SemJ Try.prog (Builtin.copy_ #[22, 22] 3 #[.slice x16A x16n x16c, .slice A20 m21 c22]) (fun v23 w24 => ∃ (n25 : Int), v23 = .int .i64 n25 ∧ reloc_Apply.p13 L0 K x2 x3 x4 x12A x12n x12c x13 x44A x44n x44c x45 x46 w24) w19)
abbrev reloc_Apply.p14 (L0 : Int → Int → Int → Option Addr → Nat → Nat → Int → Option Addr → Nat → Nat → Int → Int → World → Prop) (K : Value → World → Prop) (x2 : Int) (x3 : Int) (x4 : Int) (x12A : Option Addr) (x12n : Nat) (x12c : Nat) (x13 : Int) (x16A : Option Addr) (x16n : Nat) (x16c : Nat) (x17 : Int) (x44A : Option Addr) (x44n : Nat) (x44c : Nat) (x45 : Int) (x46 : Int) (x60 : Bool) (w : World) : Prop :=
  condP x60 (reloc_Apply.p15 K x12A x12n x12c 10 w) (reloc_Apply.p16 L0 K x2 x3 x4 x12A x12n x12c x13 x16A x16n x16c x17 x44A x44n x44c x45 x46 w)
abbrev reloc_Apply.p12 (L0 : Int → Int → Int → Option Addr → Nat → Nat → Int → Option Addr → Nat → Nat → Int → Int → World → Prop) (K : Value → World → Prop) (x2 : Int) (x3 : Int) (x4 : Int) (x12A : Option Addr) (x12n : Nat) (x12c : Nat) (x13 : Int) (x16A : Option Addr) (x16n : Nat) (x16c : Nat) (x17 : Int) (x44A : Option Addr) (x44n : Nat) (x44c : Nat) (x45 : Int) (x46 : Int) (x57 : Bool) (w : World) : Prop :=
  condP x57 (reloc_Apply.p13 L0 K x2 x3 x4 x12A x12n x12c x13 x44A x44n x44c x45 x46 w) (condP (decide (x17 < (IntKind.wrap .u64 x2))) (reloc_Apply.p14 L0 K x2 x3 x4 x12A x12n x12c x13 x16A x16n x16c x17 x44A x44n x44c x45 x46 true w) (reloc_Apply.p14 L0 K x2 x3 x4 x12A x12n x12c x13 x16A x16n x16c x17 x44A x44n x44c x45 x46 (decide ((IntKind.wrap .u64 x4) ≤ (IntKind.wrap .u64 (x17 - (IntKind.wrap .u64 x2))))) w))
abbrev reloc_Apply.p11 (L0 : Int → Int → Int → Option Addr → Nat → Nat → Int → Option Addr → Nat → Nat → Int → Int → World → Prop) (K : Value → World → Prop) (x2 : Int) (x3 : Int) (x4 : Int) (x12A : Option Addr) (x12n : Nat) (x12c : Nat) (x13 : Int) (x16A : Option Addr) (x16n : Nat) (x16c : Nat) (x17 : Int) (x44A : Option Addr) (x44n : Nat) (x44c : Nat) (x45 : Int) (x46 : Int) (w : World) : Prop :=
  reloc_Apply.p12 L0 K x2 x3 x4 x12A x12n x12c x13 x16A x16n x16c x17 x44A x44n x44c x45 x46 (x17 == (0 : Int)) w
abbrev reloc_Apply.p10 (L0 : Int → Int → Int → Option Addr → Nat → Nat → Int → Option Addr → Nat → Nat → Int → Int → World → Prop) (K : Value → World → Prop) (x2 : Int) (x3 : Int) (x4 : Int) (x12A : Option Addr) (x12n : Nat) (x12c : Nat) (x13 : Int) (x16A : Option Addr) (x16n : Nat) (x16c : Nat) (x44A : Option Addr) (x44n : Nat) (x44c : Nat) (x45 : Int) (x46 : Int) (w : World) : Prop :=
  CallsE Try.prog 16 #[.slice x16A x16n x16c] w (fun v15 w16 => ∃ (n17 : Int), v15 = .int .u64 n17 ∧ reloc_Apply.p11 L0 K x2 x3 x4 x12A x12n x12c x13 x16A x16n x16c n17 x44A x44n x44c x45 x46 w16)
abbrev reloc_Apply.p9 (L0 : Int → Int → Int → Option Addr → Nat → Nat → Int → Option Addr → Nat → Nat → Int → Int → World → Prop) (K : Value → World → Prop) (x2 : Int) (x3 : Int) (x4 : Int) (x12A : Option Addr) (x12n : Nat) (x12c : Nat) (x13 : Int) (x15 : Int) (x44A : Option Addr) (x44n : Nat) (x44c : Nat) (x45 : Int) (x46 : Int) (w : World) : Prop :=
  (0 ≤ (IntKind.wrap .i64 (x15 + (8 : Int))) ∧ (IntKind.wrap .i64 (x15 + (8 : Int))) ≤ ((x12c : Nat) : Int)) ∧ (0 ≤ x15 ∧ x15 ≤ (((IntKind.wrap .i64 (x15 + (8 : Int))).toNat : Nat) : Int)) ∧ reloc_Apply.p10 L0 K x2 x3 x4 x12A x12n x12c x13 (slA x12A x15.toNat x12c 1) (((IntKind.wrap .i64 (x15 + (8 : Int))).toNat) - x15.toNat) (x12c - x15.toNat) x44A x44n x44c x45 x46 w
abbrev reloc_Apply.p8 (L0 : Int → Int → Int → Option Addr → Nat → Nat → Int → Option Addr → Nat → Nat → Int → Int → World → Prop) (K : Value → World → Prop) (x2 : Int) (x3 : Int) (x4 : Int) (x12A : Option Addr) (x12n : Nat) (x12c : Nat) (x13 : Int) (x44A : Option Addr) (x44n : Nat) (x44c : Nat) (x45 : Int) (x46 : Int) (w : World) : Prop :=
  (0 ≤ x46 ∧ x46 < ((x44n : Nat) : Int)) ∧ ∃ (a13 : Addr), x44A = some a13 ∧ ∃ (n14 : Int), w.cell? (a13.add x46.toNat) = some (.int .i64 n14) ∧ reloc_Apply.p9 L0 K x2 x3 x4 x12A x12n x12c x13 n14 x44A x44n x44c x45 x46 w
abbrev reloc_Apply.p7 (L0 : Int → Int → Int → Option Addr → Nat → Nat → Int → Option Addr → Nat → Nat → Int → Int → World → Prop) (K : Value → World → Prop) (x2 : Int) (x3 : Int) (x4 : Int) (x12A : Option Addr) (x12n : Nat) (x12c : Nat) (x13 : Int) (x44A : Option Addr) (x44n : Nat) (x44c : Nat) (x45 : Int) (x46 : Int) (x47 : Bool) (w : World) : Prop :=
  condP x47 (reloc_Apply.p8 L0 K x2 x3 x4 x12A x12n x12c x13 x44A x44n x44c x45 x46 w) (reloc_Apply.p15 K x12A x12n x12c x13 w)
abbrev reloc_Apply.b0 (L0 : Int → Int → Int → Option Addr → Nat → Nat → Int → Option Addr → Nat → Nat → Int → Int → World → Prop) (K : Value → World → Prop) (x2 : Int) (x3 : Int) (x4 : Int) (x12A : Option Addr) (x12n : Nat) (x12c : Nat) (x13 : Int) (x44A : Option Addr) (x44n : Nat) (x44c : Nat) (x45 : Int) (x46 : Int) (w : World) : Prop :=
  reloc_Apply.p7 L0 K x2 x3 x4 x12A x12n x12c x13 x44A x44n x44c x45 x46 (decide (x46 < x45)) w
def reloc_Apply.l0 (K : Value → World → Prop) (k : Nat) : Int → Int → Int → Option Addr → Nat → Nat → Int → Option Addr → Nat → Nat → Int → Int → World → Prop :=
  Nat.rec (motive := fun _ => Int → Int → Int → Option Addr → Nat → Nat → Int → Option Addr → Nat → Nat → Int → Int → World → Prop) (fun _ _ _ _ _ _ _ _ _ _ _ _ _ => False) (fun _ ih => reloc_Apply.b0 ih K) k
theorem reloc_Apply.l0_succ (K : Value → World → Prop) (k : Nat) (x2 : Int) (x3 : Int) (x4 : Int) (x12A : Option Addr) (x12n : Nat) (x12c : Nat) (x13 : Int) (x44A : Option Addr) (x44n : Nat) (x44c : Nat) (x45 : Int) (x46 : Int) (w : World) : reloc_Apply.l0 K (k + 1) x2 x3 x4 x12A x12n x12c x13 x44A x44n x44c x45 x46 w = reloc_Apply.b0 (reloc_Apply.l0 K k) K x2 x3 x4 x12A x12n x12c x13 x44A x44n x44c x45 x46 w := rfl
abbrev reloc_Apply.p6 (K : Value → World → Prop) (x2 : Int) (x3 : Int) (x4 : Int) (x12A : Option Addr) (x12n : Nat) (x12c : Nat) (x13 : Int) (x44A : Option Addr) (x44n : Nat) (x44c : Nat) (x45 : Int) (x46 : Int) (w : World) : Prop :=
  ∃ k, reloc_Apply.l0 K k x2 x3 x4 x12A x12n x12c x13 x44A x44n x44c x45 x46 w
abbrev reloc_Apply.p5 (K : Value → World → Prop) (x1A : Option Addr) (x1n : Nat) (x1c : Nat) (x2 : Int) (x3 : Int) (x4 : Int) (x12A : Option Addr) (x12n : Nat) (x12c : Nat) (x13 : Int) (w : World) : Prop :=
  reloc_Apply.p6 K x2 x3 x4 x12A x12n x12c x13 x1A x1n x1c ((x1n : Nat) : Int) 0 w
abbrev reloc_Apply.p4 (K : Value → World → Prop) (x1A : Option Addr) (x1n : Nat) (x1c : Nat) (x2 : Int) (x3 : Int) (x4 : Int) (x12A : Option Addr) (x12n : Nat) (x12c : Nat) (x13 : Int) (w : World) : Prop :=
  reloc_Apply.p5 K x1A x1n x1c x2 x3 x4 x12A x12n x12c x13 w
abbrev reloc_Apply.p3 (K : Value → World → Prop) (x1A : Option Addr) (x1n : Nat) (x1c : Nat) (x2 : Int) (x3 : Int) (x4 : Int) (x12A : Option Addr) (x12n : Nat) (x12c : Nat) (w : World) : Prop :=
  reloc_Apply.p4 K x1A x1n x1c x2 x3 x4 x12A x12n x12c 0 w
abbrev reloc_Apply.p2 (K : Value → World → Prop) (x0A : Option Addr) (x0n : Nat) (x0c : Nat) (x1A : Option Addr) (x1n : Nat) (x1c : Nat) (x2 : Int) (x3 : Int) (x4 : Int) (w : World) : Prop :=
  wlet (w.alloc (.cells #[] 5)) fun w7 => SemJ Try.prog (Builtin.append_ #[22, 22] 22 #[.slice (some ⟨w.heap.size, 0, none⟩) 0 0, .slice x0A x0n x0c]) (fun v8 w9 => ∃ (A10 : Option Addr) (m11 : Nat) (c12 : Nat), v8 = .slice A10 m11 c12 ∧ reloc_Apply.p3 K x1A x1n x1c x2 x3 x4 A10 m11 c12 w9) w7
abbrev reloc_Apply.p1 (K : Value → World → Prop) (x0A : Option Addr) (x0n : Nat) (x0c : Nat) (x1A : Option Addr) (x1n : Nat) (x1c : Nat) (x2 : Int) (x3 : Int) (x4 : Int) (x18 : Bool) (w : World) : Prop :=
  condP x18 (K (.tuple #[.slice none 0 0, .int .i64 2]) w) (CallsE Try.prog 15 #[.slice x1A x1n x1c, .int .i64 ((x0n : Nat) : Int)] w (fun v4 w5 => ∃ (b6 : Bool), v4 = .bool b6 ∧ condP (!b6) (K (.tuple #[.slice none 0 0, .int .i64 4]) w5) (reloc_Apply.p2 K x0A x0n x0c x1A x1n x1c x2 x3 x4 w5)))
abbrev reloc_Apply.p0 (K : Value → World → Prop) (x0A : Option Addr) (x0n : Nat) (x0c : Nat) (x1A : Option Addr) (x1n : Nat) (x1c : Nat) (x2 : Int) (x3 : Int) (x4 : Int) (w : World) : Prop :=
  CallsE Try.prog 27 #[.int .i64 x2] w (fun v1 w2 => ∃ (b3 : Bool), v1 = .bool b3 ∧ condP (!b3) (reloc_Apply.p1 K x0A x0n x0c x1A x1n x1c x2 x3 x4 true w2) (CallsE Try.prog 27 #[.int .i64 x3] w2 (fun v26 w27 => ∃ (b28 : Bool), v26 = .bool b28 ∧ condP (!b28) (reloc_Apply.p1 K x0A x0n x0c x1A x1n x1c x2 x3 x4 true w27) (condP (decide (x4 < (0 : Int))) (reloc_Apply.p1 K x0A x0n x0c x1A x1n x1c x2 x3 x4 true w27) (reloc_Apply.p1 K x0A x0n x0c x1A x1n x1c x2 x3 x4 (decide ((1048576 : Int) < x4)) w27)))))
abbrev reloc_Apply.F (q0A : Option Addr) (q0n : Nat) (q0c : Nat) (q1A : Option Addr) (q1n : Nat) (q1c : Nat) (q2 : Int) (q3 : Int) (q4 : Int) (K : Value → World → Prop) (w : World) : Prop :=
  reloc_Apply.p0 K q0A q0n q0c q1A q1n q1c q2 q3 q4 w
theorem reloc_Apply.ok {q0A : Option Addr} {q0n : Nat} {q0c : Nat} {q1A : Option Addr} {q1n : Nat} {q1c : Nat} {q2 : Int} {q3 : Int} {q4 : Int} {K : Value → World → Prop} {w : World} (h : reloc_Apply.F q0A q0n q0c q1A q1n q1c q2 q3 q4 K w) :
    CallsE Try.prog 11 #[.slice q0A q0n q0c, .slice q1A q1n q1c, .int .i64 q2, .int .i64 q3, .int .i64 q4] w K := by
  refine calls_of_J (n := 89) (rs := [.tmp 10, .tmp 11]) Try.func11 rfl rfl rfl rfl ?_
  refine J_seq (fun σ w => vS (σ 0) fun x0A x0n x0c => vS (σ 1) fun x1A x1n x1c => vI .i64 (σ 2) fun x2 => vI .i64 (σ 3) fun x3 => vI .i64 (σ 4) fun x4 => reloc_Apply.p0 K x0A x0n x0c x1A x1n x1c x2 x3 x4 w) ?_ ?_
  ·
    exact sh_sound _ _ _ _ (Eq.mp (by kernel_rfl) h)
  · intro σ w h
    obtain ⟨x0A, x0n, x0c, e0, h⟩ := vS_elim h
    obtain ⟨x1A, x1n, x1c, e1, h⟩ := vS_elim h
    obtain ⟨x2, e2, h⟩ := vI_elim h
    obtain ⟨x3, e3, h⟩ := vI_elim h
    obtain ⟨x4, e4, h⟩ := vI_elim h
    refine J.sub ?_ ((((((Sub.base _).upd e0).upd e1).upd e2).upd e3).upd e4)
    clear e0 e1 e2 e3 e4
    refine J_scope ?_
    refine J_seq (fun σ w => vS (σ 0) fun x0A x0n x0c => vS (σ 1) fun x1A x1n x1c => vI .i64 (σ 2) fun x2 => vI .i64 (σ 3) fun x3 => vI .i64 (σ 4) fun x4 => reloc_Apply.p2 K x0A x0n x0c x1A x1n x1c x2 x3 x4 w) ?_ ?_
    ·
      refine J_block ?_
      refine J_seq (fun σ w => vS (σ 0) fun x0A x0n x0c => vS (σ 1) fun x1A x1n x1c => vI .i64 (σ 2) fun x2 => vI .i64 (σ 3) fun x3 => vI .i64 (σ 4) fun x4 => vB (σ 18) fun x18 => reloc_Apply.p1 K x0A x0n x0c x1A x1n x1c x2 x3 x4 x18 w) ?_ ?_
      ·
        exact sh_sound _ _ _ _ (Eq.mp (by kernel_rfl) h)
      · intro σ w h
        obtain ⟨x0A, x0n, x0c, e0, h⟩ := vS_elim h
        obtain ⟨x1A, x1n, x1c, e1, h⟩ := vS_elim h
        obtain ⟨x2, e2, h⟩ := vI_elim h
        obtain ⟨x3, e3, h⟩ := vI_elim h
        obtain ⟨x4, e4, h⟩ := vI_elim h
        obtain ⟨x18, e18, h⟩ := vB_elim h
        refine J.sub ?_ (((((((Sub.base _).upd e0).upd e1).upd e2).upd e3).upd e4).upd e18)
        clear e0 e1 e2 e3 e4 e18
        exact sh_sound _ _ _ _ (Eq.mp (by kernel_rfl) h)
    · intro σ w h
      obtain ⟨x0A, x0n, x0c, e0, h⟩ := vS_elim h
      obtain ⟨x1A, x1n, x1c, e1, h⟩ := vS_elim h
      obtain ⟨x2, e2, h⟩ := vI_elim h
      obtain ⟨x3, e3, h⟩ := vI_elim h
      obtain ⟨x4, e4, h⟩ := vI_elim h
      refine J.sub ?_ ((((((Sub.base _).upd e0).upd e1).upd e2).upd e3).upd e4)
      clear e0 e1 e2 e3 e4
      refine J_seq (fun σ w => vS (σ 1) fun x1A x1n x1c => vI .i64 (σ 2) fun x2 => vI .i64 (σ 3) fun x3 => vI .i64 (σ 4) fun x4 => vS (σ 12) fun x12A x12n x12c => reloc_Apply.p3 K x1A x1n x1c x2 x3 x4 x12A x12n x12c w) ?_ ?_
      ·
        exact sh_sound _ _ _ _ (Eq.mp (by kernel_rfl) h)
      · intro σ w h
        obtain ⟨x1A, x1n, x1c, e1, h⟩ := vS_elim h
        obtain ⟨x2, e2, h⟩ := vI_elim h
        obtain ⟨x3, e3, h⟩ := vI_elim h
        obtain ⟨x4, e4, h⟩ := vI_elim h
        obtain ⟨x12A, x12n, x12c, e12, h⟩ := vS_elim h
        refine J.sub ?_ ((((((Sub.base _).upd e1).upd e2).upd e3).upd e4).upd e12)
        clear e1 e2 e3 e4 e12
        refine J_seq (fun σ w => vS (σ 1) fun x1A x1n x1c => vI .i64 (σ 2) fun x2 => vI .i64 (σ 3) fun x3 => vI .i64 (σ 4) fun x4 => vS (σ 12) fun x12A x12n x12c => vI .i64 (σ 13) fun x13 => reloc_Apply.p4 K x1A x1n x1c x2 x3 x4 x12A x12n x12c x13 w) ?_ ?_
        ·
          exact sh_sound _ _ _ _ (Eq.mp (by kernel_rfl) h)
        · intro σ w h
          obtain ⟨x1A, x1n, x1c, e1, h⟩ := vS_elim h
          obtain ⟨x2, e2, h⟩ := vI_elim h
          obtain ⟨x3, e3, h⟩ := vI_elim h
          obtain ⟨x4, e4, h⟩ := vI_elim h
          obtain ⟨x12A, x12n, x12c, e12, h⟩ := vS_elim h
          obtain ⟨x13, e13, h⟩ := vI_elim h
          refine J.sub ?_ (((((((Sub.base _).upd e1).upd e2).upd e3).upd e4).upd e12).upd e13)
          clear e1 e2 e3 e4 e12 e13
          refine J_seq (fun σ w => vS (σ 1) fun x1A x1n x1c => vI .i64 (σ 2) fun x2 => vI .i64 (σ 3) fun x3 => vI .i64 (σ 4) fun x4 => vS (σ 12) fun x12A x12n x12c => vI .i64 (σ 13) fun x13 => reloc_Apply.p5 K x1A x1n x1c x2 x3 x4 x12A x12n x12c x13 w) ?_ ?_
          ·
            exact sh_sound _ _ _ _ (Eq.mp (by kernel_rfl) h)
          · intro σ w h
            obtain ⟨x1A, x1n, x1c, e1, h⟩ := vS_elim h
            obtain ⟨x2, e2, h⟩ := vI_elim h
            obtain ⟨x3, e3, h⟩ := vI_elim h
            obtain ⟨x4, e4, h⟩ := vI_elim h
            obtain ⟨x12A, x12n, x12c, e12, h⟩ := vS_elim h
            obtain ⟨x13, e13, h⟩ := vI_elim h
            refine J.sub ?_ (((((((Sub.base _).upd e1).upd e2).upd e3).upd e4).upd e12).upd e13)
            clear e1 e2 e3 e4 e12 e13
            refine J_seq (fun σ w => vS (σ 12) fun x12A x12n x12c => vI .i64 (σ 13) fun x13 => reloc_Apply.p15 K x12A x12n x12c x13 w) ?_ ?_
            ·
              refine J_seq (fun σ w => vI .i64 (σ 2) fun x2 => vI .i64 (σ 3) fun x3 => vI .i64 (σ 4) fun x4 => vS (σ 12) fun x12A x12n x12c => vI .i64 (σ 13) fun x13 => vS (σ 44) fun x44A x44n x44c => vI .i64 (σ 45) fun x45 => vI .i64 (σ 46) fun x46 => reloc_Apply.p6 K x2 x3 x4 x12A x12n x12c x13 x44A x44n x44c x45 x46 w) ?_ ?_
              ·
                exact sh_sound _ _ _ _ (Eq.mp (by kernel_rfl) h)
              · intro σ w h
                obtain ⟨x2, e2, h⟩ := vI_elim h
                obtain ⟨x3, e3, h⟩ := vI_elim h
                obtain ⟨x4, e4, h⟩ := vI_elim h
                obtain ⟨x12A, x12n, x12c, e12, h⟩ := vS_elim h
                obtain ⟨x13, e13, h⟩ := vI_elim h
                obtain ⟨x44A, x44n, x44c, e44, h⟩ := vS_elim h
                obtain ⟨x45, e45, h⟩ := vI_elim h
                obtain ⟨x46, e46, h⟩ := vI_elim h
                refine J.sub ?_ (((((((((Sub.base _).upd e2).upd e3).upd e4).upd e12).upd e13).upd e44).upd e45).upd e46)
                clear e2 e3 e4 e12 e13 e44 e45 e46
                refine J_block ?_
                refine J_loop (fun k σ w => vI .i64 (σ 2) fun x2 => vI .i64 (σ 3) fun x3 => vI .i64 (σ 4) fun x4 => vS (σ 12) fun x12A x12n x12c => vI .i64 (σ 13) fun x13 => vS (σ 44) fun x44A x44n x44c => vI .i64 (σ 45) fun x45 => vI .i64 (σ 46) fun x46 => reloc_Apply.l0 K k x2 x3 x4 x12A x12n x12c x13 x44A x44n x44c x45 x46 w) (Eq.mp (by kernel_rfl) h) ?_ ?_
                · intro σ w h
                  obtain ⟨x2, e2, h⟩ := vI_elim h
                  obtain ⟨x3, e3, h⟩ := vI_elim h
                  obtain ⟨x4, e4, h⟩ := vI_elim h
                  obtain ⟨x12A, x12n, x12c, e12, h⟩ := vS_elim h
                  obtain ⟨x13, e13, h⟩ := vI_elim h
                  obtain ⟨x44A, x44n, x44c, e44, h⟩ := vS_elim h
                  obtain ⟨x45, e45, h⟩ := vI_elim h
                  obtain ⟨x46, e46, h⟩ := vI_elim h
                  exact h
                · intro k0 σ w h
                  obtain ⟨x2, e2, h⟩ := vI_elim h
                  obtain ⟨x3, e3, h⟩ := vI_elim h
                  obtain ⟨x4, e4, h⟩ := vI_elim h
                  obtain ⟨x12A, x12n, x12c, e12, h⟩ := vS_elim h
                  obtain ⟨x13, e13, h⟩ := vI_elim h
                  obtain ⟨x44A, x44n, x44c, e44, h⟩ := vS_elim h
                  obtain ⟨x45, e45, h⟩ := vI_elim h
                  obtain ⟨x46, e46, h⟩ := vI_elim h
                  refine J.sub ?_ (((((((((Sub.base _).upd e2).upd e3).upd e4).upd e12).upd e13).upd e44).upd e45).upd e46)
                  clear e2 e3 e4 e12 e13 e44 e45 e46
                  refine J_seq (fun σ w => vI .i64 (σ 2) fun x2 => vI .i64 (σ 3) fun x3 => vI .i64 (σ 4) fun x4 => vS (σ 12) fun x12A x12n x12c => vI .i64 (σ 13) fun x13 => vS (σ 44) fun x44A x44n x44c => vI .i64 (σ 45) fun x45 => vI .i64 (σ 46) fun x46 => vB (σ 47) fun x47 => reloc_Apply.p7 (reloc_Apply.l0 K k0) K x2 x3 x4 x12A x12n x12c x13 x44A x44n x44c x45 x46 x47 w) ?_ ?_
                  ·
                    exact sh_sound _ _ _ _ (Eq.mp (by kernel_rfl) h)
                  · intro σ w h
                    obtain ⟨x2, e2, h⟩ := vI_elim h
                    obtain ⟨x3, e3, h⟩ := vI_elim h
                    obtain ⟨x4, e4, h⟩ := vI_elim h
                    obtain ⟨x12A, x12n, x12c, e12, h⟩ := vS_elim h
                    obtain ⟨x13, e13, h⟩ := vI_elim h
                    obtain ⟨x44A, x44n, x44c, e44, h⟩ := vS_elim h
                    obtain ⟨x45, e45, h⟩ := vI_elim h
                    obtain ⟨x46, e46, h⟩ := vI_elim h
                    obtain ⟨x47, e47, h⟩ := vB_elim h
                    refine J.sub ?_ ((((((((((Sub.base _).upd e2).upd e3).upd e4).upd e12).upd e13).upd e44).upd e45).upd e46).upd e47)
                    clear e2 e3 e4 e12 e13 e44 e45 e46 e47
                    refine J_seq (fun σ w => vI .i64 (σ 2) fun x2 => vI .i64 (σ 3) fun x3 => vI .i64 (σ 4) fun x4 => vS (σ 12) fun x12A x12n x12c => vI .i64 (σ 13) fun x13 => vS (σ 44) fun x44A x44n x44c => vI .i64 (σ 45) fun x45 => vI .i64 (σ 46) fun x46 => reloc_Apply.p8 (reloc_Apply.l0 K k0) K x2 x3 x4 x12A x12n x12c x13 x44A x44n x44c x45 x46 w) ?_ ?_
                    ·
                      exact sh_sound _ _ _ _ (Eq.mp (by kernel_rfl) h)
                    · intro σ w h
                      obtain ⟨x2, e2, h⟩ := vI_elim h
                      obtain ⟨x3, e3, h⟩ := vI_elim h
                      obtain ⟨x4, e4, h⟩ := vI_elim h
                      obtain ⟨x12A, x12n, x12c, e12, h⟩ := vS_elim h
                      obtain ⟨x13, e13, h⟩ := vI_elim h
                      obtain ⟨x44A, x44n, x44c, e44, h⟩ := vS_elim h
                      obtain ⟨x45, e45, h⟩ := vI_elim h
                      obtain ⟨x46, e46, h⟩ := vI_elim h
                      refine J.sub ?_ (((((((((Sub.base _).upd e2).upd e3).upd e4).upd e12).upd e13).upd e44).upd e45).upd e46)
                      clear e2 e3 e4 e12 e13 e44 e45 e46
                      refine J_seq (fun σ w => vI .i64 (σ 2) fun x2 => vI .i64 (σ 3) fun x3 => vI .i64 (σ 4) fun x4 => vS (σ 12) fun x12A x12n x12c => vI .i64 (σ 13) fun x13 => vS (σ 44) fun x44A x44n x44c => vI .i64 (σ 45) fun x45 => vI .i64 (σ 46) fun x46 => reloc_Apply.p13 (reloc_Apply.l0 K k0) K x2 x3 x4 x12A x12n x12c x13 x44A x44n x44c x45 x46 w) ?_ ?_
                      ·
                        refine J_block ?_
                        refine J_seq (fun σ w => vI .i64 (σ 2) fun x2 => vI .i64 (σ 3) fun x3 => vI .i64 (σ 4) fun x4 => vS (σ 12) fun x12A x12n x12c => vI .i64 (σ 13) fun x13 => vI .i64 (σ 15) fun x15 => vS (σ 44) fun x44A x44n x44c => vI .i64 (σ 45) fun x45 => vI .i64 (σ 46) fun x46 => reloc_Apply.p9 (reloc_Apply.l0 K k0) K x2 x3 x4 x12A x12n x12c x13 x15 x44A x44n x44c x45 x46 w) ?_ ?_
                        ·
                          exact sh_sound _ _ _ _ (Eq.mp (by kernel_rfl) h)
                        · intro σ w h
                          obtain ⟨x2, e2, h⟩ := vI_elim h
                          obtain ⟨x3, e3, h⟩ := vI_elim h
                          obtain ⟨x4, e4, h⟩ := vI_elim h
                          obtain ⟨x12A, x12n, x12c, e12, h⟩ := vS_elim h
                          obtain ⟨x13, e13, h⟩ := vI_elim h
                          obtain ⟨x15, e15, h⟩ := vI_elim h
                          obtain ⟨x44A, x44n, x44c, e44, h⟩ := vS_elim h
                          obtain ⟨x45, e45, h⟩ := vI_elim h
                          obtain ⟨x46, e46, h⟩ := vI_elim h
                          refine J.sub ?_ ((((((((((Sub.base _).upd e2).upd e3).upd e4).upd e12).upd e13).upd e15).upd e44).upd e45).upd e46)
                          clear e2 e3 e4 e12 e13 e15 e44 e45 e46
                          refine J_seq (fun σ w => vI .i64 (σ 2) fun x2 => vI .i64 (σ 3) fun x3 => vI .i64 (σ 4) fun x4 => vS (σ 12) fun x12A x12n x12c => vI .i64 (σ 13) fun x13 => vS (σ 16) fun x16A x16n x16c => vS (σ 44) fun x44A x44n x44c => vI .i64 (σ 45) fun x45 => vI .i64 (σ 46) fun x46 => reloc_Apply.p10 (reloc_Apply.l0 K k0) K x2 x3 x4 x12A x12n x12c x13 x16A x16n x16c x44A x44n x44c x45 x46 w) ?_ ?_
                          ·
                            exact sh_sound _ _ _ _ (Eq.mp (by kernel_rfl) h)
                          · intro σ w h
                            obtain ⟨x2, e2, h⟩ := vI_elim h
                            obtain ⟨x3, e3, h⟩ := vI_elim h
                            obtain ⟨x4, e4, h⟩ := vI_elim h
                            obtain ⟨x12A, x12n, x12c, e12, h⟩ := vS_elim h
                            obtain ⟨x13, e13, h⟩ := vI_elim h
                            obtain ⟨x16A, x16n, x16c, e16, h⟩ := vS_elim h
                            obtain ⟨x44A, x44n, x44c, e44, h⟩ := vS_elim h
                            obtain ⟨x45, e45, h⟩ := vI_elim h
                            obtain ⟨x46, e46, h⟩ := vI_elim h
                            refine J.sub ?_ ((((((((((Sub.base _).upd e2).upd e3).upd e4).upd e12).upd e13).upd e16).upd e44).upd e45).upd e46)
                            clear e2 e3 e4 e12 e13 e16 e44 e45 e46
                            refine J_seq (fun σ w => vI .i64 (σ 2) fun x2 => vI .i64 (σ 3) fun x3 => vI .i64 (σ 4) fun x4 => vS (σ 12) fun x12A x12n x12c => vI .i64 (σ 13) fun x13 => vS (σ 16) fun x16A x16n x16c => vI .u64 (σ 17) fun x17 => vS (σ 44) fun x44A x44n x44c => vI .i64 (σ 45) fun x45 => vI .i64 (σ 46) fun x46 => reloc_Apply.p11 (reloc_Apply.l0 K k0) K x2 x3 x4 x12A x12n x12c x13 x16A x16n x16c x17 x44A x44n x44c x45 x46 w) ?_ ?_
                            ·
                              exact sh_sound _ _ _ _ (Eq.mp (by kernel_rfl) h)
                            · intro σ w h
                              obtain ⟨x2, e2, h⟩ := vI_elim h
                              obtain ⟨x3, e3, h⟩ := vI_elim h
                              obtain ⟨x4, e4, h⟩ := vI_elim h
                              obtain ⟨x12A, x12n, x12c, e12, h⟩ := vS_elim h
                              obtain ⟨x13, e13, h⟩ := vI_elim h
                              obtain ⟨x16A, x16n, x16c, e16, h⟩ := vS_elim h
                              obtain ⟨x17, e17, h⟩ := vI_elim h
                              obtain ⟨x44A, x44n, x44c, e44, h⟩ := vS_elim h
                              obtain ⟨x45, e45, h⟩ := vI_elim h
                              obtain ⟨x46, e46, h⟩ := vI_elim h
                              refine J.sub ?_ (((((((((((Sub.base _).upd e2).upd e3).upd e4).upd e12).upd e13).upd e16).upd e17).upd e44).upd e45).upd e46)
                              clear e2 e3 e4 e12 e13 e16 e17 e44 e45 e46
                              refine J_seq (fun σ w => vI .i64 (σ 2) fun x2 => vI .i64 (σ 3) fun x3 => vI .i64 (σ 4) fun x4 => vS (σ 12) fun x12A x12n x12c => vI .i64 (σ 13) fun x13 => vS (σ 16) fun x16A x16n x16c => vI .u64 (σ 17) fun x17 => vS (σ 44) fun x44A x44n x44c => vI .i64 (σ 45) fun x45 => vI .i64 (σ 46) fun x46 => reloc_Apply.p16 (reloc_Apply.l0 K k0) K x2 x3 x4 x12A x12n x12c x13 x16A x16n x16c x17 x44A x44n x44c x45 x46 w) ?_ ?_
                              ·
                                refine J_block ?_
                                refine J_seq (fun σ w => vI .i64 (σ 2) fun x2 => vI .i64 (σ 3) fun x3 => vI .i64 (σ 4) fun x4 => vS (σ 12) fun x12A x12n x12c => vI .i64 (σ 13) fun x13 => vS (σ 16) fun x16A x16n x16c => vI .u64 (σ 17) fun x17 => vS (σ 44) fun x44A x44n x44c => vI .i64 (σ 45) fun x45 => vI .i64 (σ 46) fun x46 => vB (σ 57) fun x57 => reloc_Apply.p12 (reloc_Apply.l0 K k0) K x2 x3 x4 x12A x12n x12c x13 x16A x16n x16c x17 x44A x44n x44c x45 x46 x57 w) ?_ ?_
                                ·
                                  exact sh_sound _ _ _ _ (Eq.mp (by kernel_rfl) h)
                                · intro σ w h
                                  obtain ⟨x2, e2, h⟩ := vI_elim h
                                  obtain ⟨x3, e3, h⟩ := vI_elim h
                                  obtain ⟨x4, e4, h⟩ := vI_elim h
                                  obtain ⟨x12A, x12n, x12c, e12, h⟩ := vS_elim h
                                  obtain ⟨x13, e13, h⟩ := vI_elim h
                                  obtain ⟨x16A, x16n, x16c, e16, h⟩ := vS_elim h
                                  obtain ⟨x17, e17, h⟩ := vI_elim h
                                  obtain ⟨x44A, x44n, x44c, e44, h⟩ := vS_elim h
                                  obtain ⟨x45, e45, h⟩ := vI_elim h
                                  obtain ⟨x46, e46, h⟩ := vI_elim h
                                  obtain ⟨x57, e57, h⟩ := vB_elim h
                                  refine J.sub ?_ ((((((((((((Sub.base _).upd e2).upd e3).upd e4).upd e12).upd e13).upd e16).upd e17).upd e44).upd e45).upd e46).upd e57)
                                  clear e2 e3 e4 e12 e13 e16 e17 e44 e45 e46 e57
                                  refine J_cond' h (by kernel_rfl) (fun h => ?_) (fun h => ?_)
                                  ·
                                    exact sh_sound _ _ _ _ (Eq.mp (by kernel_rfl) h)
                                  ·
                                    refine J_seq (fun σ w => vI .i64 (σ 2) fun x2 => vI .i64 (σ 3) fun x3 => vI .i64 (σ 4) fun x4 => vS (σ 12) fun x12A x12n x12c => vI .i64 (σ 13) fun x13 => vS (σ 16) fun x16A x16n x16c => vI .u64 (σ 17) fun x17 => vS (σ 44) fun x44A x44n x44c => vI .i64 (σ 45) fun x45 => vI .i64 (σ 46) fun x46 => vB (σ 60) fun x60 => reloc_Apply.p14 (reloc_Apply.l0 K k0) K x2 x3 x4 x12A x12n x12c x13 x16A x16n x16c x17 x44A x44n x44c x45 x46 x60 w) ?_ ?_
                                    ·
                                      exact sh_sound _ _ _ _ (Eq.mp (by kernel_rfl) h)
                                    · intro σ w h
                                      obtain ⟨x2, e2, h⟩ := vI_elim h
                                      obtain ⟨x3, e3, h⟩ := vI_elim h
                                      obtain ⟨x4, e4, h⟩ := vI_elim h
                                      obtain ⟨x12A, x12n, x12c, e12, h⟩ := vS_elim h
                                      obtain ⟨x13, e13, h⟩ := vI_elim h
                                      obtain ⟨x16A, x16n, x16c, e16, h⟩ := vS_elim h
                                      obtain ⟨x17, e17, h⟩ := vI_elim h
                                      obtain ⟨x44A, x44n, x44c, e44, h⟩ := vS_elim h
                                      obtain ⟨x45, e45, h⟩ := vI_elim h
                                      obtain ⟨x46, e46, h⟩ := vI_elim h
                                      obtain ⟨x60, e60, h⟩ := vB_elim h
                                      refine J.sub ?_ ((((((((((((Sub.base _).upd e2).upd e3).upd e4).upd e12).upd e13).upd e16).upd e17).upd e44).upd e45).upd e46).upd e60)
                                      clear e2 e3 e4 e12 e13 e16 e17 e44 e45 e46 e60
                                      exact sh_sound _ _ _ _ (Eq.mp (by kernel_rfl) h)
                              · intro σ w h
                                obtain ⟨x2, e2, h⟩ := vI_elim h
                                obtain ⟨x3, e3, h⟩ := vI_elim h
                                obtain ⟨x4, e4, h⟩ := vI_elim h
                                obtain ⟨x12A, x12n, x12c, e12, h⟩ := vS_elim h
                                obtain ⟨x13, e13, h⟩ := vI_elim h
                                obtain ⟨x16A, x16n, x16c, e16, h⟩ := vS_elim h
                                obtain ⟨x17, e17, h⟩ := vI_elim h
                                obtain ⟨x44A, x44n, x44c, e44, h⟩ := vS_elim h
                                obtain ⟨x45, e45, h⟩ := vI_elim h
                                obtain ⟨x46, e46, h⟩ := vI_elim h
                                refine J.sub ?_ (((((((((((Sub.base _).upd e2).upd e3).upd e4).upd e12).upd e13).upd e16).upd e17).upd e44).upd e45).upd e46)
                                clear e2 e3 e4 e12 e13 e16 e17 e44 e45 e46
                                exact sh_sound _ _ _ _ (Eq.mp (by kernel_rfl) h)
                      · intro σ w h
                        obtain ⟨x2, e2, h⟩ := vI_elim h
                        obtain ⟨x3, e3, h⟩ := vI_elim h
                        obtain ⟨x4, e4, h⟩ := vI_elim h
                        obtain ⟨x12A, x12n, x12c, e12, h⟩ := vS_elim h
                        obtain ⟨x13, e13, h⟩ := vI_elim h
                        obtain ⟨x44A, x44n, x44c, e44, h⟩ := vS_elim h
                        obtain ⟨x45, e45, h⟩ := vI_elim h
                        obtain ⟨x46, e46, h⟩ := vI_elim h
                        refine J.sub ?_ (((((((((Sub.base _).upd e2).upd e3).upd e4).upd e12).upd e13).upd e44).upd e45).upd e46)
                        clear e2 e3 e4 e12 e13 e44 e45 e46
                        exact sh_sound _ _ _ _ (Eq.mp (by kernel_rfl) h)
            · intro σ w h
              obtain ⟨x12A, x12n, x12c, e12, h⟩ := vS_elim h
              obtain ⟨x13, e13, h⟩ := vI_elim h
              refine J.sub ?_ (((Sub.base _).upd e12).upd e13)
              clear e12 e13
              exact sh_sound _ _ _ _ (Eq.mp (by kernel_rfl) h)

/-! ### hayloft/hayloftref16.Apply: function 12 -/
abbrev ref16_Apply.p10 (L0 : Option Addr → Nat → Nat → Int → Int → Int → Option Addr → Nat → Nat → Option Addr → Nat → Nat → Int → Int → World → Prop) (K : Value → World → Prop) (x0A : Option Addr) (x0n : Nat) (x0c : Nat) (x2 : Int) (x3 : Int) (x4 : Int) (x12A : Option Addr) (x12n : Nat) (x12c : Nat) (x41A : Option Addr) (x41n : Nat) (x41c : Nat) (x42 : Int) (x43 : Int) (w : World) : Prop :=
  L0 x0A x0n x0c x2 x3 x4 x12A x12n x12c x41A x41n x41c x42 (IntKind.wrap .i64 (x43 + (1 : Int))) w
abbrev ref16_Apply.b1 (L1 : Option Addr → Nat → Nat → Int → Int → Int → Option Addr → Nat → Nat → Int → Option Addr → Nat → Nat → Int → Int → Option Addr → Nat → Nat → Int → Int → World → Prop) (L0 : Option Addr → Nat → Nat → Int → Int → Int → Option Addr → Nat → Nat → Option Addr → Nat → Nat → Int → Int → World → Prop) (K : Value → World → Prop) (x0A : Option Addr) (x0n : Nat) (x0c : Nat) (x2 : Int) (x3 : Int) (x4 : Int) (x12A : Option Addr) (x12n : Nat) (x12c : Nat) (x14 : Int) (x41A : Option Addr) (x41n : Nat) (x41c : Nat) (x42 : Int) (x43 : Int) (x75A : Option Addr) (x75n : Nat) (x75c : Nat) (x76 : Int) (x77 : Int) (w : World) : Prop :=
  condP (decide (x77 < x76)) ((0 ≤ x77 ∧ x77 < ((x75n : Nat) : Int)) ∧ ∃ (a22 : Addr), x75A = some a22 ∧ ∃ (n23 : Int), w.cell? (a22.add x77.toNat) = some (.int .u8 n23) ∧ (0 ≤ (IntKind.wrap .i64 (x14 + x77)) ∧ (IntKind.wrap .i64 (x14 + x77)) < ((x12n : Nat) : Int)) ∧ ∃ (a24 : Addr), x12A = some a24 ∧ canStore w (a24.add ((IntKind.wrap .i64 (x14 + x77)).toNat)) ∧ wlet (w.setCell (a24.add ((IntKind.wrap .i64 (x14 + x77)).toNat)) (.int .u8 n23)) fun w25 => L1 x0A x0n x0c x2 x3 x4 x12A x12n x12c x14 x41A x41n x41c x42 x43 x75A x75n x75c x76 (IntKind.wrap .i64 (x77 + (1 : Int))) w25) (ref16_Apply.p10 L0 K x0A x0n x0c x2 x3 x4 x12A x12n x12c x41A x41n x41c x42 x43 w)
def ref16_Apply.l1 (L0 : Option Addr → Nat → Nat → Int → Int → Int → Option Addr → Nat → Nat → Option Addr → Nat → Nat → Int → Int → World → Prop) (K : Value → World → Prop) (k : Nat) : Option Addr → Nat → Nat → Int → Int → Int → Option Addr → Nat → Nat → Int → Option Addr → Nat → Nat → Int → Int → Option Addr → Nat → Nat → Int → Int → World → Prop :=
  Nat.rec (motive := fun _ => Option Addr → Nat → Nat → Int → Int → Int → Option Addr → Nat → Nat → Int → Option Addr → Nat → Nat → Int → Int → Option Addr → Nat → Nat → Int → Int → World → Prop) (fun _ _ _ _ _ _ _ _ _ _ _ _ _ _ _ _ _ _ _ _ _ => False) (fun _ ih => ref16_Apply.b1 ih L0 K) k
theorem ref16_Apply.l1_succ (L0 : Option Addr → Nat → Nat → Int → Int → Int → Option Addr → Nat → Nat → Option Addr → Nat → Nat → Int → Int → World → Prop) (K : Value → World → Prop) (k : Nat) (x0A : Option Addr) (x0n : Nat) (x0c : Nat) (x2 : Int) (x3 : Int) (x4 : Int) (x12A : Option Addr) (x12n : Nat) (x12c : Nat) (x14 : Int) (x41A : Option Addr) (x41n : Nat) (x41c : Nat) (x42 : Int) (x43 : Int) (x75A : Option Addr) (x75n : Nat) (x75c : Nat) (x76 : Int) (x77 : Int) (w : World) : ref16_Apply.l1 L0 K (k + 1) x0A x0n x0c x2 x3 x4 x12A x12n x12c x14 x41A x41n x41c x42 x43 x75A x75n x75c x76 x77 w = ref16_Apply.b1 (ref16_Apply.l1 L0 K k) L0 K x0A x0n x0c x2 x3 x4 x12A x12n x12c x14 x41A x41n x41c x42 x43 x75A x75n x75c x76 x77 w := rfl
abbrev ref16_Apply.p14 (L0 : Option Addr → Nat → Nat → Int → Int → Int → Option Addr → Nat → Nat → Option Addr → Nat → Nat → Int → Int → World → Prop) (K : Value → World → Prop) (x0A : Option Addr) (x0n : Nat) (x0c : Nat) (x2 : Int) (x3 : Int) (x4 : Int) (x12A : Option Addr) (x12n : Nat) (x12c : Nat) (x14 : Int) (x41A : Option Addr) (x41n : Nat) (x41c : Nat) (x42 : Int) (x43 : Int) (x75A : Option Addr) (x75n : Nat) (x75c : Nat) (x76 : Int) (x77 : Int) (w : World) : Prop :=
  ∃ k, ref16_Apply.l1 L0 K k x0A x0n x0c x2 x3 x4 x12A x12n x12c x14 x41A x41n x41c x42 x43 x75A x75n x75c x76 x77 w
abbrev ref16_Apply.p13 (L0 : Option Addr → Nat → Nat → Int → Int → Int → Option Addr → Nat → Nat → Option Addr → Nat → Nat → Int → Int → World → Prop) (K : Value → World → Prop) (x0A : Option Addr) (x0n : Nat) (x0c : Nat) (x2 : Int) (x3 : Int) (x4 : Int) (x12A : Option Addr) (x12n : Nat) (x12c : Nat) (x14 : Int) (x15 : Int) (x41A : Option Addr) (x41n : Nat) (x41c : Nat) (x42 : Int) (x43 : Int) (w : World) : Prop :=
  CallsE Try.prog 30 #[.int .u64 (IntKind.wrap .u64 ((IntKind.wrap .u64 (x15 - (IntKind.wrap .u64 x2))) + (IntKind.wrap .u64 x3))), .int .i64 8] w (fun v17 w18 => ∃ (A19 : Option Addr) (m20 : Nat) (c21 : Nat), v17 = .slice A19 m20 c21 ∧ ref16_Apply.p14 L0 K x0A x0n x0c x2 x3 x4 x12A x12n x12c x14 x41A x41n x41c x42 x43 A19 m20 c21 ((m20 : Nat) : Int) 0 w18)
abbrev ref16_Apply.p12 (L0 : Option Addr → Nat → Nat → Int → Int → Int → Option Addr → Nat → Nat → Option Addr → Nat → Nat → Int → Int → World → Prop) (K : Value → World → Prop) (x0A : Option Addr) (x0n : Nat) (x0c : Nat) (x2 : Int) (x3 : Int) (x4 : Int) (x12A : Option Addr) (x12n : Nat) (x12c : Nat) (x14 : Int) (x15 : Int) (x41A : Option Addr) (x41n : Nat) (x41c : Nat) (x42 : Int) (x43 : Int) (x67 : Bool) (w : World) : Prop :=
  condP x67 (K (.tuple #[.slice none 0 0, .int .i64 10]) w) (ref16_Apply.p13 L0 K x0A x0n x0c x2 x3 x4 x12A x12n x12c x14 x15 x41A x41n x41c x42 x43 w)
abbrev ref16_Apply.p11 (L0 : Option Addr → Nat → Nat → Int → Int → Int → Option Addr → Nat → Nat → Option Addr → Nat → Nat → Int → Int → World → Prop) (K : Value → World → Prop) (x0A : Option Addr) (x0n : Nat) (x0c : Nat) (x2 : Int) (x3 : Int) (x4 : Int) (x12A : Option Addr) (x12n : Nat) (x12c : Nat) (x14 : Int) (x15 : Int) (x41A : Option Addr) (x41n : Nat) (x41c : Nat) (x42 : Int) (x43 : Int) (w : World) : Prop :=
  condP (decide (x15 < (IntKind.wrap .u64 x2))) (ref16_Apply.p12 L0 K x0A x0n x0c x2 x3 x4 x12A x12n x12c x14 x15 x41A x41n x41c x42 x43 true w) (ref16_Apply.p12 L0 K x0A x0n x0c x2 x3 x4 x12A x12n x12c x14 x15 x41A x41n x41c x42 x43 (decide ((IntKind.wrap .u64 x4) ≤ (IntKind.wrap .u64 (x15 - (IntKind.wrap .u64 x2))))) w)
abbrev ref16_Apply.p9 (L0 : Option Addr → Nat → Nat → Int → Int → Int → Option Addr → Nat → Nat → Option Addr → Nat → Nat → Int → Int → World → Prop) (K : Value → World → Prop) (x0A : Option Addr) (x0n : Nat) (x0c : Nat) (x2 : Int) (x3 : Int) (x4 : Int) (x12A : Option Addr) (x12n : Nat) (x12c : Nat) (x14 : Int) (x15 : Int) (x41A : Option Addr) (x41n : Nat) (x41c : Nat) (x42 : Int) (x43 : Int) (w : World) : Prop :=
  condP (x15 == (0 : Int)) (ref16_Apply.p10 L0 K x0A x0n x0c x2 x3 x4 x12A x12n x12c x41A x41n x41c x42 x43 w) (ref16_Apply.p11 L0 K x0A x0n x0c x2 x3 x4 x12A x12n x12c x14 x15 x41A x41n x41c x42 x43 w)
abbrev ref16_Apply.p8 (L0 : Option Addr → Nat → Nat → Int → Int → Int → Option Addr → Nat → Nat → Option Addr → Nat → Nat → Int → Int → World → Prop) (K : Value → World → Prop) (x0A : Option Addr) (x0n : Nat) (x0c : Nat) (x2 : Int) (x3 : Int) (x4 : Int) (x12A : Option Addr) (x12n : Nat) (x12c : Nat) (x14 : Int) (x41A : Option Addr) (x41n : Nat) (x41c : Nat) (x42 : Int) (x43 : Int) (w : World) : Prop :=
  (0 ≤ (IntKind.wrap .i64 (x14 + (8 : Int))) ∧ (IntKind.wrap .i64 (x14 + (8 : Int))) ≤ ((x0c : Nat) : Int)) ∧ (0 ≤ x14 ∧ x14 ≤ (((IntKind.wrap .i64 (x14 + (8 : Int))).toNat : Nat) : Int)) ∧ CallsE Try.prog 29 #[.slice (slA x0A x14.toNat x0c 1) (((IntKind.wrap .i64 (x14 + (8 : Int))).toNat) - x14.toNat) (x0c - x14.toNat)] w (fun v14 w15 => ∃ (n16 : Int), v14 = .int .u64 n16 ∧ ref16_Apply.p9 L0 K x0A x0n x0c x2 x3 x4 x12A x12n x12c x14 n16 x41A x41n x41c x42 x43 w15)
abbrev ref16_Apply.p7 (L0 : Option Addr → Nat → Nat → Int → Int → Int → Option Addr → Nat → Nat → Option Addr → Nat → Nat → Int → Int → World → Prop) (K : Value → World → Prop) (x0A : Option Addr) (x0n : Nat) (x0c : Nat) (x2 : Int) (x3 : Int) (x4 : Int) (x12A : Option Addr) (x12n : Nat) (x12c : Nat) (x41A : Option Addr) (x41n : Nat) (x41c : Nat) (x42 : Int) (x43 : Int) (w : World) : Prop :=
  (0 ≤ x43 ∧ x43 < ((x41n : Nat) : Int)) ∧ ∃ (a12 : Addr), x41A = some a12 ∧ ∃ (n13 : Int), w.cell? (a12.add x43.toNat) = some (.int .i64 n13) ∧ ref16_Apply.p8 L0 K x0A x0n x0c x2 x3 x4 x12A x12n x12c n13 x41A x41n x41c x42 x43 w
abbrev ref16_Apply.p15 (K : Value → World → Prop) (x12A : Option Addr) (x12n : Nat) (x12c : Nat) (w : World) : Prop :=
  K (.tuple #[.slice x12A x12n x12c, .int .i64 0]) w
abbrev ref16_Apply.p6 (L0 : Option Addr → Nat → Nat → Int → Int → Int → Option Addr → Nat → Nat → Option Addr → Nat → Nat → Int → Int → World → Prop) (K : Value → World → Prop) (x0A : Option Addr) (x0n : Nat) (x0c : Nat) (x2 : Int) (x3 : Int) (x4 : Int) (x12A : Option Addr) (x12n : Nat) (x12c : Nat) (x41A : Option Addr) (x41n : Nat) (x41c : Nat) (x42 : Int) (x43 : Int) (x44 : Bool) (w : World) : Prop :=
  condP x44 (ref16_Apply.p7 L0 K x0A x0n x0c x2 x3 x4 x12A x12n x12c x41A x41n x41c x42 x43 w) (ref16_Apply.p15 K x12A x12n x12c w)
abbrev ref16_Apply.b0 (L0 : Option Addr → Nat → Nat → Int → Int → Int → Option Addr → Nat → Nat → Option Addr → Nat → Nat → Int → Int → World → Prop) (K : Value → World → Prop) (x0A : Option Addr) (x0n : Nat) (x0c : Nat) (x2 : Int) (x3 : Int) (x4 : Int) (x12A : Option Addr) (x12n : Nat) (x12c : Nat) (x41A : Option Addr) (x41n : Nat) (x41c : Nat) (x42 : Int) (x43 : Int) (w : World) : Prop :=
  ref16_Apply.p6 L0 K x0A x0n x0c x2 x3 x4 x12A x12n x12c x41A x41n x41c x42 x43 (decide (x43 < x42)) w
def ref16_Apply.l0 (K : Value → World → Prop) (k : Nat) : Option Addr → Nat → Nat → Int → Int → Int → Option Addr → Nat → Nat → Option Addr → Nat → Nat → Int → Int → World → Prop :=
  Nat.rec (motive := fun _ => Option Addr → Nat → Nat → Int → Int → Int → Option Addr → Nat → Nat → Option Addr → Nat → Nat → Int → Int → World → Prop) (fun _ _ _ _ _ _ _ _ _ _ _ _ _ _ _ => False) (fun _ ih => ref16_Apply.b0 ih K) k
theorem ref16_Apply.l0_succ (K : Value → World → Prop) (k : Nat) (x0A : Option Addr) (x0n : Nat) (x0c : Nat) (x2 : Int) (x3 : Int) (x4 : Int) (x12A : Option Addr) (x12n : Nat) (x12c : Nat) (x41A : Option Addr) (x41n : Nat) (x41c : Nat) (x42 : Int) (x43 : Int) (w : World) : ref16_Apply.l0 K (k + 1) x0A x0n x0c x2 x3 x4 x12A x12n x12c x41A x41n x41c x42 x43 w = ref16_Apply.b0 (ref16_Apply.l0 K k) K x0A x0n x0c x2 x3 x4 x12A x12n x12c x41A x41n x41c x42 x43 w := rfl
abbrev ref16_Apply.p5 (K : Value → World → Prop) (x0A : Option Addr) (x0n : Nat) (x0c : Nat) (x2 : Int) (x3 : Int) (x4 : Int) (x12A : Option Addr) (x12n : Nat) (x12c : Nat) (x41A : Option Addr) (x41n : Nat) (x41c : Nat) (x42 : Int) (x43 : Int) (w : World) : Prop :=
  ∃ k, ref16_Apply.l0 K k x0A x0n x0c x2 x3 x4 x12A x12n x12c x41A x41n x41c x42 x43 w
abbrev ref16_Apply.p4 (K : Value → World → Prop) (x0A : Option Addr) (x0n : Nat) (x0c : Nat) (x1A : Option Addr) (x1n : Nat) (x1c : Nat) (x2 : Int) (x3 : Int) (x4 : Int) (x12A : Option Addr) (x12n : Nat) (x12c : Nat) (w : World) : Prop :=
  ref16_Apply.p5 K x0A x0n x0c x2 x3 x4 x12A x12n x12c x1A x1n x1c ((x1n : Nat) : Int) 0 w
abbrev ref16_Apply.p3 (K : Value → World → Prop) (x0A : Option Addr) (x0n : Nat) (x0c : Nat) (x1A : Option Addr) (x1n : Nat) (x1c : Nat) (x2 : Int) (x3 : Int) (x4 : Int) (w : World) : Prop :=
  CallsE Try.prog 10 #[.slice x0A x0n x0c] w (fun v7 w8 => ∃ (A9 : Option Addr) (m10 : Nat) (c11 : Nat), v7 = .slice A9 m10 c11 ∧ ref16_Apply.p4 K x0A x0n x0c x1A x1n x1c x2 x3 x4 A9 m10 c11 w8)
abbrev ref16_Apply.p2 (K : Value → World → Prop) (x0A : Option Addr) (x0n : Nat) (x0c : Nat) (x1A : Option Addr) (x1n : Nat) (x1c : Nat) (x2 : Int) (x3 : Int) (x4 : Int) (w : World) : Prop :=
  CallsE Try.prog 19 #[.slice x1A x1n x1c, .int .i64 ((x0n : Nat) : Int)] w (fun v4 w5 => ∃ (b6 : Bool), v4 = .bool b6 ∧ condP (!b6) (K (.tuple #[.slice none 0 0, .int .i64 4]) w5) (ref16_Apply.p3 K x0A x0n x0c x1A x1n x1c x2 x3 x4 w5))
abbrev ref16_Apply.p1 (K : Value → World → Prop) (x0A : Option Addr) (x0n : Nat) (x0c : Nat) (x1A : Option Addr) (x1n : Nat) (x1c : Nat) (x2 : Int) (x3 : Int) (x4 : Int) (x33 : Bool) (w : World) : Prop :=
  condP x33 (K (.tuple #[.slice none 0 0, .int .i64 2]) w) (ref16_Apply.p2 K x0A x0n x0c x1A x1n x1c x2 x3 x4 w)
abbrev ref16_Apply.p0 (K : Value → World → Prop) (x0A : Option Addr) (x0n : Nat) (x0c : Nat) (x1A : Option Addr) (x1n : Nat) (x1c : Nat) (x2 : Int) (x3 : Int) (x4 : Int) (w : World) : Prop :=
  CallsE Try.prog 28 #[.int .i64 x2] w (fun v1 w2 => ∃ (b3 : Bool), v1 = .bool b3 ∧ condP (!b3) (ref16_Apply.p1 K x0A x0n x0c x1A x1n x1c x2 x3 x4 true w2) (CallsE Try.prog 28 #[.int .i64 x3] w2 (fun v26 w27 => ∃ (b28 : Bool), v26 = .bool b28 ∧ condP (!b28) (ref16_Apply.p1 K x0A x0n x0c x1A x1n x1c x2 x3 x4 true w27) (condP (decide (x4 < (0 : Int))) (ref16_Apply.p1 K x0A x0n x0c x1A x1n x1c x2 x3 x4 true w27) (ref16_Apply.p1 K x0A x0n x0c x1A x1n x1c x2 x3 x4 (decide ((1048576 : Int) < x4)) w27)))))
abbrev ref16_Apply.F (q0A : Option Addr) (q0n : Nat) (q0c : Nat) (q1A : Option Addr) (q1n : Nat) (q1c : Nat) (q2 : Int) (q3 : Int) (q4 : Int) (K : Value → World → Prop) (w : World) : Prop :=
  ref16_Apply.p0 K q0A q0n q0c q1A q1n q1c q2 q3 q4 w
theorem ref16_Apply.ok {q0A : Option Addr} {q0n : Nat} {q0c : Nat} {q1A : Option Addr} {q1n : Nat} {q1c : Nat} {q2 : Int} {q3 : Int} {q4 : Int} {K : Value → World → Prop} {w : World} (h : ref16_Apply.F q0A q0n q0c q1A q1n q1c q2 q3 q4 K w) :
    CallsE Try.prog 12 #[.slice q0A q0n q0c, .slice q1A q1n q1c, .int .i64 q2, .int .i64 q3, .int .i64 q4] w K := by
  refine calls_of_J (n := 91) (rs := [.tmp 10, .tmp 11]) Try.func12 rfl rfl rfl rfl ?_
  refine J_seq (fun σ w => vS (σ 0) fun x0A x0n x0c => vS (σ 1) fun x1A x1n x1c => vI .i64 (σ 2) fun x2 => vI .i64 (σ 3) fun x3 => vI .i64 (σ 4) fun x4 => ref16_Apply.p0 K x0A x0n x0c x1A x1n x1c x2 x3 x4 w) ?_ ?_
  ·
    exact sh_sound _ _ _ _ (Eq.mp (by kernel_rfl) h)
  · intro σ w h
    obtain ⟨x0A, x0n, x0c, e0, h⟩ := vS_elim h
    obtain ⟨x1A, x1n, x1c, e1, h⟩ := vS_elim h
    obtain ⟨x2, e2, h⟩ := vI_elim h
    obtain ⟨x3, e3, h⟩ := vI_elim h
    obtain ⟨x4, e4, h⟩ := vI_elim h
    refine J.sub ?_ ((((((Sub.base _).upd e0).upd e1).upd e2).upd e3).upd e4)
    clear e0 e1 e2 e3 e4
    refine J_seq (fun σ w => vS (σ 0) fun x0A x0n x0c => vS (σ 1) fun x1A x1n x1c => vI .i64 (σ 2) fun x2 => vI .i64 (σ 3) fun x3 => vI .i64 (σ 4) fun x4 => ref16_Apply.p2 K x0A x0n x0c x1A x1n x1c x2 x3 x4 w) ?_ ?_
    ·
      refine J_seq (fun σ w => vS (σ 0) fun x0A x0n x0c => vS (σ 1) fun x1A x1n x1c => vI .i64 (σ 2) fun x2 => vI .i64 (σ 3) fun x3 => vI .i64 (σ 4) fun x4 => vB (σ 33) fun x33 => ref16_Apply.p1 K x0A x0n x0c x1A x1n x1c x2 x3 x4 x33 w) ?_ ?_
      ·
        exact sh_sound _ _ _ _ (Eq.mp (by kernel_rfl) h)
      · intro σ w h
        obtain ⟨x0A, x0n, x0c, e0, h⟩ := vS_elim h
        obtain ⟨x1A, x1n, x1c, e1, h⟩ := vS_elim h
        obtain ⟨x2, e2, h⟩ := vI_elim h
        obtain ⟨x3, e3, h⟩ := vI_elim h
        obtain ⟨x4, e4, h⟩ := vI_elim h
        obtain ⟨x33, e33, h⟩ := vB_elim h
        refine J.sub ?_ (((((((Sub.base _).upd e0).upd e1).upd e2).upd e3).upd e4).upd e33)
        clear e0 e1 e2 e3 e4 e33
        exact sh_sound _ _ _ _ (Eq.mp (by kernel_rfl) h)
    · intro σ w h
      obtain ⟨x0A, x0n, x0c, e0, h⟩ := vS_elim h
      obtain ⟨x1A, x1n, x1c, e1, h⟩ := vS_elim h
      obtain ⟨x2, e2, h⟩ := vI_elim h
      obtain ⟨x3, e3, h⟩ := vI_elim h
      obtain ⟨x4, e4, h⟩ := vI_elim h
      refine J.sub ?_ ((((((Sub.base _).upd e0).upd e1).upd e2).upd e3).upd e4)
      clear e0 e1 e2 e3 e4
      refine J_seq (fun σ w => vS (σ 0) fun x0A x0n x0c => vS (σ 1) fun x1A x1n x1c => vI .i64 (σ 2) fun x2 => vI .i64 (σ 3) fun x3 => vI .i64 (σ 4) fun x4 => ref16_Apply.p3 K x0A x0n x0c x1A x1n x1c x2 x3 x4 w) ?_ ?_
      ·
        exact sh_sound _ _ _ _ (Eq.mp (by kernel_rfl) h)
      · intro σ w h
        obtain ⟨x0A, x0n, x0c, e0, h⟩ := vS_elim h
        obtain ⟨x1A, x1n, x1c, e1, h⟩ := vS_elim h
        obtain ⟨x2, e2, h⟩ := vI_elim h
        obtain ⟨x3, e3, h⟩ := vI_elim h
        obtain ⟨x4, e4, h⟩ := vI_elim h
        refine J.sub ?_ ((((((Sub.base _).upd e0).upd e1).upd e2).upd e3).upd e4)
        clear e0 e1 e2 e3 e4
        refine J_seq (fun σ w => vS (σ 0) fun x0A x0n x0c => vS (σ 1) fun x1A x1n x1c => vI .i64 (σ 2) fun x2 => vI .i64 (σ 3) fun x3 => vI .i64 (σ 4) fun x4 => vS (σ 12) fun x12A x12n x12c => ref16_Apply.p4 K x0A x0n x0c x1A x1n x1c x2 x3 x4 x12A x12n x12c w) ?_ ?_
        ·
          exact sh_sound _ _ _ _ (Eq.mp (by kernel_rfl) h)
        · intro σ w h
          obtain ⟨x0A, x0n, x0c, e0, h⟩ := vS_elim h
          obtain ⟨x1A, x1n, x1c, e1, h⟩ := vS_elim h
          obtain ⟨x2, e2, h⟩ := vI_elim h
          obtain ⟨x3, e3, h⟩ := vI_elim h
          obtain ⟨x4, e4, h⟩ := vI_elim h
          obtain ⟨x12A, x12n, x12c, e12, h⟩ := vS_elim h
          refine J.sub ?_ (((((((Sub.base _).upd e0).upd e1).upd e2).upd e3).upd e4).upd e12)
          clear e0 e1 e2 e3 e4 e12
          refine J_seq (fun σ w => vS (σ 12) fun x12A x12n x12c => ref16_Apply.p15 K x12A x12n x12c w) ?_ ?_
          ·
            refine J_seq (fun σ w => vS (σ 0) fun x0A x0n x0c => vI .i64 (σ 2) fun x2 => vI .i64 (σ 3) fun x3 => vI .i64 (σ 4) fun x4 => vS (σ 12) fun x12A x12n x12c => vS (σ 41) fun x41A x41n x41c => vI .i64 (σ 42) fun x42 => vI .i64 (σ 43) fun x43 => ref16_Apply.p5 K x0A x0n x0c x2 x3 x4 x12A x12n x12c x41A x41n x41c x42 x43 w) ?_ ?_
            ·
              exact sh_sound _ _ _ _ (Eq.mp (by kernel_rfl) h)
            · intro σ w h
              obtain ⟨x0A, x0n, x0c, e0, h⟩ := vS_elim h
              obtain ⟨x2, e2, h⟩ := vI_elim h
              obtain ⟨x3, e3, h⟩ := vI_elim h
              obtain ⟨x4, e4, h⟩ := vI_elim h
              obtain ⟨x12A, x12n, x12c, e12, h⟩ := vS_elim h
              obtain ⟨x41A, x41n, x41c, e41, h⟩ := vS_elim h
              obtain ⟨x42, e42, h⟩ := vI_elim h
              obtain ⟨x43, e43, h⟩ := vI_elim h
              refine J.sub ?_ (((((((((Sub.base _).upd e0).upd e2).upd e3).upd e4).upd e12).upd e41).upd e42).upd e43)
              clear e0 e2 e3 e4 e12 e41 e42 e43
              refine J_block ?_
              refine J_loop (fun k σ w => vS (σ 0) fun x0A x0n x0c => vI .i64 (σ 2) fun x2 => vI .i64 (σ 3) fun x3 => vI .i64 (σ 4) fun x4 => vS (σ 12) fun x12A x12n x12c => vS (σ 41) fun x41A x41n x41c => vI .i64 (σ 42) fun x42 => vI .i64 (σ 43) fun x43 => ref16_Apply.l0 K k x0A x0n x0c x2 x3 x4 x12A x12n x12c x41A x41n x41c x42 x43 w) (Eq.mp (by kernel_rfl) h) ?_ ?_
              · intro σ w h
                obtain ⟨x0A, x0n, x0c, e0, h⟩ := vS_elim h
                obtain ⟨x2, e2, h⟩ := vI_elim h
                obtain ⟨x3, e3, h⟩ := vI_elim h
                obtain ⟨x4, e4, h⟩ := vI_elim h
                obtain ⟨x12A, x12n, x12c, e12, h⟩ := vS_elim h
                obtain ⟨x41A, x41n, x41c, e41, h⟩ := vS_elim h
                obtain ⟨x42, e42, h⟩ := vI_elim h
                obtain ⟨x43, e43, h⟩ := vI_elim h
                exact h
              · intro k0 σ w h
                obtain ⟨x0A, x0n, x0c, e0, h⟩ := vS_elim h
                obtain ⟨x2, e2, h⟩ := vI_elim h
                obtain ⟨x3, e3, h⟩ := vI_elim h
                obtain ⟨x4, e4, h⟩ := vI_elim h
                obtain ⟨x12A, x12n, x12c, e12, h⟩ := vS_elim h
                obtain ⟨x41A, x41n, x41c, e41, h⟩ := vS_elim h
                obtain ⟨x42, e42, h⟩ := vI_elim h
                obtain ⟨x43, e43, h⟩ := vI_elim h
                refine J.sub ?_ (((((((((Sub.base _).upd e0).upd e2).upd e3).upd e4).upd e12).upd e41).upd e42).upd e43)
                clear e0 e2 e3 e4 e12 e41 e42 e43
                refine J_seq (fun σ w => vS (σ 0) fun x0A x0n x0c => vI .i64 (σ 2) fun x2 => vI .i64 (σ 3) fun x3 => vI .i64 (σ 4) fun x4 => vS (σ 12) fun x12A x12n x12c => vS (σ 41) fun x41A x41n x41c => vI .i64 (σ 42) fun x42 => vI .i64 (σ 43) fun x43 => vB (σ 44) fun x44 => ref16_Apply.p6 (ref16_Apply.l0 K k0) K x0A x0n x0c x2 x3 x4 x12A x12n x12c x41A x41n x41c x42 x43 x44 w) ?_ ?_
                ·
                  exact sh_sound _ _ _ _ (Eq.mp (by kernel_rfl) h)
                · intro σ w h
                  obtain ⟨x0A, x0n, x0c, e0, h⟩ := vS_elim h
                  obtain ⟨x2, e2, h⟩ := vI_elim h
                  obtain ⟨x3, e3, h⟩ := vI_elim h
                  obtain ⟨x4, e4, h⟩ := vI_elim h
                  obtain ⟨x12A, x12n, x12c, e12, h⟩ := vS_elim h
                  obtain ⟨x41A, x41n, x41c, e41, h⟩ := vS_elim h
                  obtain ⟨x42, e42, h⟩ := vI_elim h
                  obtain ⟨x43, e43, h⟩ := vI_elim h
                  obtain ⟨x44, e44, h⟩ := vB_elim h
                  refine J.sub ?_ ((((((((((Sub.base _).upd e0).upd e2).upd e3).upd e4).upd e12).upd e41).upd e42).upd e43).upd e44)
                  clear e0 e2 e3 e4 e12 e41 e42 e43 e44
                  refine J_seq (fun σ w => vS (σ 0) fun x0A x0n x0c => vI .i64 (σ 2) fun x2 => vI .i64 (σ 3) fun x3 => vI .i64 (σ 4) fun x4 => vS (σ 12) fun x12A x12n x12c => vS (σ 41) fun x41A x41n x41c => vI .i64 (σ 42) fun x42 => vI .i64 (σ 43) fun x43 => ref16_Apply.p7 (ref16_Apply.l0 K k0) K x0A x0n x0c x2 x3 x4 x12A x12n x12c x41A x41n x41c x42 x43 w) ?_ ?_
                  ·
                    exact sh_sound _ _ _ _ (Eq.mp (by kernel_rfl) h)
                  · intro σ w h
                    obtain ⟨x0A, x0n, x0c, e0, h⟩ := vS_elim h
                    obtain ⟨x2, e2, h⟩ := vI_elim h
                    obtain ⟨x3, e3, h⟩ := vI_elim h
                    obtain ⟨x4, e4, h⟩ := vI_elim h
                    obtain ⟨x12A, x12n, x12c, e12, h⟩ := vS_elim h
                    obtain ⟨x41A, x41n, x41c, e41, h⟩ := vS_elim h
                    obtain ⟨x42, e42, h⟩ := vI_elim h
                    obtain ⟨x43, e43, h⟩ := vI_elim h
                    refine J.sub ?_ (((((((((Sub.base _).upd e0).upd e2).upd e3).upd e4).upd e12).upd e41).upd e42).upd e43)
                    clear e0 e2 e3 e4 e12 e41 e42 e43
                    refine J_seq (fun σ w => vS (σ 0) fun x0A x0n x0c => vI .i64 (σ 2) fun x2 => vI .i64 (σ 3) fun x3 => vI .i64 (σ 4) fun x4 => vS (σ 12) fun x12A x12n x12c => vS (σ 41) fun x41A x41n x41c => vI .i64 (σ 42) fun x42 => vI .i64 (σ 43) fun x43 => ref16_Apply.p10 (ref16_Apply.l0 K k0) K x0A x0n x0c x2 x3 x4 x12A x12n x12c x41A x41n x41c x42 x43 w) ?_ ?_
                    ·
                      refine J_block ?_
                      refine J_seq (fun σ w => vS (σ 0) fun x0A x0n x0c => vI .i64 (σ 2) fun x2 => vI .i64 (σ 3) fun x3 => vI .i64 (σ 4) fun x4 => vS (σ 12) fun x12A x12n x12c => vI .i64 (σ 14) fun x14 => vS (σ 41) fun x41A x41n x41c => vI .i64 (σ 42) fun x42 => vI .i64 (σ 43) fun x43 => ref16_Apply.p8 (ref16_Apply.l0 K k0) K x0A x0n x0c x2 x3 x4 x12A x12n x12c x14 x41A x41n x41c x42 x43 w) ?_ ?_
                      ·
                        exact sh_sound _ _ _ _ (Eq.mp (by kernel_rfl) h)
                      · intro σ w h
                        obtain ⟨x0A, x0n, x0c, e0, h⟩ := vS_elim h
                        obtain ⟨x2, e2, h⟩ := vI_elim h
                        obtain ⟨x3, e3, h⟩ := vI_elim h
                        obtain ⟨x4, e4, h⟩ := vI_elim h
                        obtain ⟨x12A, x12n, x12c, e12, h⟩ := vS_elim h
                        obtain ⟨x14, e14, h⟩ := vI_elim h
                        obtain ⟨x41A, x41n, x41c, e41, h⟩ := vS_elim h
                        obtain ⟨x42, e42, h⟩ := vI_elim h
                        obtain ⟨x43, e43, h⟩ := vI_elim h
                        refine J.sub ?_ ((((((((((Sub.base _).upd e0).upd e2).upd e3).upd e4).upd e12).upd e14).upd e41).upd e42).upd e43)
                        clear e0 e2 e3 e4 e12 e14 e41 e42 e43
                        refine J_seq (fun σ w => vS (σ 0) fun x0A x0n x0c => vI .i64 (σ 2) fun x2 => vI .i64 (σ 3) fun x3 => vI .i64 (σ 4) fun x4 => vS (σ 12) fun x12A x12n x12c => vI .i64 (σ 14) fun x14 => vI .u64 (σ 15) fun x15 => vS (σ 41) fun x41A x41n x41c => vI .i64 (σ 42) fun x42 => vI .i64 (σ 43) fun x43 => ref16_Apply.p9 (ref16_Apply.l0 K k0) K x0A x0n x0c x2 x3 x4 x12A x12n x12c x14 x15 x41A x41n x41c x42 x43 w) ?_ ?_
                        ·
                          exact sh_sound _ _ _ _ (Eq.mp (by kernel_rfl) h)
                        · intro σ w h
                          obtain ⟨x0A, x0n, x0c, e0, h⟩ := vS_elim h
                          obtain ⟨x2, e2, h⟩ := vI_elim h
                          obtain ⟨x3, e3, h⟩ := vI_elim h
                          obtain ⟨x4, e4, h⟩ := vI_elim h
                          obtain ⟨x12A, x12n, x12c, e12, h⟩ := vS_elim h
                          obtain ⟨x14, e14, h⟩ := vI_elim h
                          obtain ⟨x15, e15, h⟩ := vI_elim h
                          obtain ⟨x41A, x41n, x41c, e41, h⟩ := vS_elim h
                          obtain ⟨x42, e42, h⟩ := vI_elim h
                          obtain ⟨x43, e43, h⟩ := vI_elim h
                          refine J.sub ?_ (((((((((((Sub.base _).upd e0).upd e2).upd e3).upd e4).upd e12).upd e14).upd e15).upd e41).upd e42).upd e43)
                          clear e0 e2 e3 e4 e12 e14 e15 e41 e42 e43
                          refine J_seq (fun σ w => vS (σ 0) fun x0A x0n x0c => vI .i64 (σ 2) fun x2 => vI .i64 (σ 3) fun x3 => vI .i64 (σ 4) fun x4 => vS (σ 12) fun x12A x12n x12c => vI .i64 (σ 14) fun x14 => vI .u64 (σ 15) fun x15 => vS (σ 41) fun x41A x41n x41c => vI .i64 (σ 42) fun x42 => vI .i64 (σ 43) fun x43 => ref16_Apply.p11 (ref16_Apply.l0 K k0) K x0A x0n x0c x2 x3 x4 x12A x12n x12c x14 x15 x41A x41n x41c x42 x43 w) ?_ ?_
                          ·
                            exact sh_sound _ _ _ _ (Eq.mp (by kernel_rfl) h)
                          · intro σ w h
                            obtain ⟨x0A, x0n, x0c, e0, h⟩ := vS_elim h
                            obtain ⟨x2, e2, h⟩ := vI_elim h
                            obtain ⟨x3, e3, h⟩ := vI_elim h
                            obtain ⟨x4, e4, h⟩ := vI_elim h
                            obtain ⟨x12A, x12n, x12c, e12, h⟩ := vS_elim h
                            obtain ⟨x14, e14, h⟩ := vI_elim h
                            obtain ⟨x15, e15, h⟩ := vI_elim h
                            obtain ⟨x41A, x41n, x41c, e41, h⟩ := vS_elim h
                            obtain ⟨x42, e42, h⟩ := vI_elim h
                            obtain ⟨x43, e43, h⟩ := vI_elim h
                            refine J.sub ?_ (((((((((((Sub.base _).upd e0).upd e2).upd e3).upd e4).upd e12).upd e14).upd e15).upd e41).upd e42).upd e43)
                            clear e0 e2 e3 e4 e12 e14 e15 e41 e42 e43
                            refine J_seq (fun σ w => vS (σ 0) fun x0A x0n x0c => vI .i64 (σ 2) fun x2 => vI .i64 (σ 3) fun x3 => vI .i64 (σ 4) fun x4 => vS (σ 12) fun x12A x12n x12c => vI .i64 (σ 14) fun x14 => vI .u64 (σ 15) fun x15 => vS (σ 41) fun x41A x41n x41c => vI .i64 (σ 42) fun x42 => vI .i64 (σ 43) fun x43 => ref16_Apply.p13 (ref16_Apply.l0 K k0) K x0A x0n x0c x2 x3 x4 x12A x12n x12c x14 x15 x41A x41n x41c x42 x43 w) ?_ ?_
                            ·
                              refine J_seq (fun σ w => vS (σ 0) fun x0A x0n x0c => vI .i64 (σ 2) fun x2 => vI .i64 (σ 3) fun x3 => vI .i64 (σ 4) fun x4 => vS (σ 12) fun x12A x12n x12c => vI .i64 (σ 14) fun x14 => vI .u64 (σ 15) fun x15 => vS (σ 41) fun x41A x41n x41c => vI .i64 (σ 42) fun x42 => vI .i64 (σ 43) fun x43 => vB (σ 67) fun x67 => ref16_Apply.p12 (ref16_Apply.l0 K k0) K x0A x0n x0c x2 x3 x4 x12A x12n x12c x14 x15 x41A x41n x41c x42 x43 x67 w) ?_ ?_
                              ·
                                exact sh_sound _ _ _ _ (Eq.mp (by kernel_rfl) h)
                              · intro σ w h
                                obtain ⟨x0A, x0n, x0c, e0, h⟩ := vS_elim h
                                obtain ⟨x2, e2, h⟩ := vI_elim h
                                obtain ⟨x3, e3, h⟩ := vI_elim h
                                obtain ⟨x4, e4, h⟩ := vI_elim h
                                obtain ⟨x12A, x12n, x12c, e12, h⟩ := vS_elim h
                                obtain ⟨x14, e14, h⟩ := vI_elim h
                                obtain ⟨x15, e15, h⟩ := vI_elim h
                                obtain ⟨x41A, x41n, x41c, e41, h⟩ := vS_elim h
                                obtain ⟨x42, e42, h⟩ := vI_elim h
                                obtain ⟨x43, e43, h⟩ := vI_elim h
                                obtain ⟨x67, e67, h⟩ := vB_elim h
                                refine J.sub ?_ ((((((((((((Sub.base _).upd e0).upd e2).upd e3).upd e4).upd e12).upd e14).upd e15).upd e41).upd e42).upd e43).upd e67)
                                clear e0 e2 e3 e4 e12 e14 e15 e41 e42 e43 e67
                                exact sh_sound _ _ _ _ (Eq.mp (by kernel_rfl) h)
                            · intro σ w h
                              obtain ⟨x0A, x0n, x0c, e0, h⟩ := vS_elim h
                              obtain ⟨x2, e2, h⟩ := vI_elim h
                              obtain ⟨x3, e3, h⟩ := vI_elim h
                              obtain ⟨x4, e4, h⟩ := vI_elim h
                              obtain ⟨x12A, x12n, x12c, e12, h⟩ := vS_elim h
                              obtain ⟨x14, e14, h⟩ := vI_elim h
                              obtain ⟨x15, e15, h⟩ := vI_elim h
                              obtain ⟨x41A, x41n, x41c, e41, h⟩ := vS_elim h
                              obtain ⟨x42, e42, h⟩ := vI_elim h
                              obtain ⟨x43, e43, h⟩ := vI_elim h
                              refine J.sub ?_ (((((((((((Sub.base _).upd e0).upd e2).upd e3).upd e4).upd e12).upd e14).upd e15).upd e41).upd e42).upd e43)
                              clear e0 e2 e3 e4 e12 e14 e15 e41 e42 e43
                              refine J_seq (fun σ w => vS (σ 0) fun x0A x0n x0c => vI .i64 (σ 2) fun x2 => vI .i64 (σ 3) fun x3 => vI .i64 (σ 4) fun x4 => vS (σ 12) fun x12A x12n x12c => vI .i64 (σ 14) fun x14 => vS (σ 41) fun x41A x41n x41c => vI .i64 (σ 42) fun x42 => vI .i64 (σ 43) fun x43 => vS (σ 75) fun x75A x75n x75c => vI .i64 (σ 76) fun x76 => vI .i64 (σ 77) fun x77 => ref16_Apply.p14 (ref16_Apply.l0 K k0) K x0A x0n x0c x2 x3 x4 x12A x12n x12c x14 x41A x41n x41c x42 x43 x75A x75n x75c x76 x77 w) ?_ ?_
                              ·
                                exact sh_sound _ _ _ _ (Eq.mp (by kernel_rfl) h)
                              · intro σ w h
                                obtain ⟨x0A, x0n, x0c, e0, h⟩ := vS_elim h
                                obtain ⟨x2, e2, h⟩ := vI_elim h
                                obtain ⟨x3, e3, h⟩ := vI_elim h
                                obtain ⟨x4, e4, h⟩ := vI_elim h
                                obtain ⟨x12A, x12n, x12c, e12, h⟩ := vS_elim h
                                obtain ⟨x14, e14, h⟩ := vI_elim h
                                obtain ⟨x41A, x41n, x41c, e41, h⟩ := vS_elim h
                                obtain ⟨x42, e42, h⟩ := vI_elim h
                                obtain ⟨x43, e43, h⟩ := vI_elim h
                                obtain ⟨x75A, x75n, x75c, e75, h⟩ := vS_elim h
                                obtain ⟨x76, e76, h⟩ := vI_elim h
                                obtain ⟨x77, e77, h⟩ := vI_elim h
                                refine J.sub ?_ (((((((((((((Sub.base _).upd e0).upd e2).upd e3).upd e4).upd e12).upd e14).upd e41).upd e42).upd e43).upd e75).upd e76).upd e77)
                                clear e0 e2 e3 e4 e12 e14 e41 e42 e43 e75 e76 e77
                                refine J_block ?_
                                refine J_loop (fun k σ w => vS (σ 0) fun x0A x0n x0c => vI .i64 (σ 2) fun x2 => vI .i64 (σ 3) fun x3 => vI .i64 (σ 4) fun x4 => vS (σ 12) fun x12A x12n x12c => vI .i64 (σ 14) fun x14 => vS (σ 41) fun x41A x41n x41c => vI .i64 (σ 42) fun x42 => vI .i64 (σ 43) fun x43 => vS (σ 75) fun x75A x75n x75c => vI .i64 (σ 76) fun x76 => vI .i64 (σ 77) fun x77 => ref16_Apply.l1 (ref16_Apply.l0 K k0) K k x0A x0n x0c x2 x3 x4 x12A x12n x12c x14 x41A x41n x41c x42 x43 x75A x75n x75c x76 x77 w) (Eq.mp (by kernel_rfl) h) ?_ ?_
                                · intro σ w h
                                  obtain ⟨x0A, x0n, x0c, e0, h⟩ := vS_elim h
                                  obtain ⟨x2, e2, h⟩ := vI_elim h
                                  obtain ⟨x3, e3, h⟩ := vI_elim h
                                  obtain ⟨x4, e4, h⟩ := vI_elim h
                                  obtain ⟨x12A, x12n, x12c, e12, h⟩ := vS_elim h
                                  obtain ⟨x14, e14, h⟩ := vI_elim h
                                  obtain ⟨x41A, x41n, x41c, e41, h⟩ := vS_elim h
                                  obtain ⟨x42, e42, h⟩ := vI_elim h
                                  obtain ⟨x43, e43, h⟩ := vI_elim h
                                  obtain ⟨x75A, x75n, x75c, e75, h⟩ := vS_elim h
                                  obtain ⟨x76, e76, h⟩ := vI_elim h
                                  obtain ⟨x77, e77, h⟩ := vI_elim h
                                  exact h
                                · intro k1 σ w h
                                  obtain ⟨x0A, x0n, x0c, e0, h⟩ := vS_elim h
                                  obtain ⟨x2, e2, h⟩ := vI_elim h
                                  obtain ⟨x3, e3, h⟩ := vI_elim h
                                  obtain ⟨x4, e4, h⟩ := vI_elim h
                                  obtain ⟨x12A, x12n, x12c, e12, h⟩ := vS_elim h
                                  obtain ⟨x14, e14, h⟩ := vI_elim h
                                  obtain ⟨x41A, x41n, x41c, e41, h⟩ := vS_elim h
                                  obtain ⟨x42, e42, h⟩ := vI_elim h
                                  obtain ⟨x43, e43, h⟩ := vI_elim h
                                  obtain ⟨x75A, x75n, x75c, e75, h⟩ := vS_elim h
                                  obtain ⟨x76, e76, h⟩ := vI_elim h
                                  obtain ⟨x77, e77, h⟩ := vI_elim h
                                  refine J.sub ?_ (((((((((((((Sub.base _).upd e0).upd e2).upd e3).upd e4).upd e12).upd e14).upd e41).upd e42).upd e43).upd e75).upd e76).upd e77)
                                  clear e0 e2 e3 e4 e12 e14 e41 e42 e43 e75 e76 e77
                                  exact sh_sound _ _ _ _ (Eq.mp (by kernel_rfl) h)
                    · intro σ w h
                      obtain ⟨x0A, x0n, x0c, e0, h⟩ := vS_elim h
                      obtain ⟨x2, e2, h⟩ := vI_elim h
                      obtain ⟨x3, e3, h⟩ := vI_elim h
                      obtain ⟨x4, e4, h⟩ := vI_elim h
                      obtain ⟨x12A, x12n, x12c, e12, h⟩ := vS_elim h
                      obtain ⟨x41A, x41n, x41c, e41, h⟩ := vS_elim h
                      obtain ⟨x42, e42, h⟩ := vI_elim h
                      obtain ⟨x43, e43, h⟩ := vI_elim h
                      refine J.sub ?_ (((((((((Sub.base _).upd e0).upd e2).upd e3).upd e4).upd e12).upd e41).upd e42).upd e43)
                      clear e0 e2 e3 e4 e12 e41 e42 e43
                      exact sh_sound _ _ _ _ (Eq.mp (by kernel_rfl) h)
          · intro σ w h
            obtain ⟨x12A, x12n, x12c, e12, h⟩ := vS_elim h
            refine J.sub ?_ ((Sub.base _).upd e12)
            clear e12
            exact sh_sound _ _ _ _ (Eq.mp (by kernel_rfl) h)

/-! ### hayloft/hayloftref01.Same: function 13 -/
abbrev ref01_Same.F (q0A : Option Addr) (q0n : Nat) (q0c : Nat) (q1A : Option Addr) (q1n : Nat) (q1c : Nat) (K : Value → World → Prop) (w : World) : Prop :=
  ∃ (bs1 : List UInt8), bytesAt w q0A q0n bs1 ∧ ∃ (bs2 : List UInt8), bytesAt w q1A q1n bs2 ∧ K (.bool ((⟨bs1.toArray⟩ : ByteArray).toList == (⟨bs2.toArray⟩ : ByteArray).toList)) w
theorem ref01_Same.ok {q0A : Option Addr} {q0n : Nat} {q0c : Nat} {q1A : Option Addr} {q1n : Nat} {q1c : Nat} {K : Value → World → Prop} {w : World} (h : ref01_Same.F q0A q0n q0c q1A q1n q1c K w) :
    CallsE Try.prog 13 #[.slice q0A q0n q0c, .slice q1A q1n q1c] w K := by
  refine calls_of_J (n := 10) (rs := [.tmp 4]) Try.func13 rfl rfl rfl rfl ?_
  exact sh_sound _ _ _ _ (Eq.mp (by kernel_rfl) h)

/-! ### hayloft/hayloftref01.Ints: function 14 -/
abbrev ref01_Ints.p3 (K : Value → World → Prop) (w : World) : Prop :=
  K (.bool true) w
abbrev ref01_Ints.b0 (L0 : Option Addr → Nat → Nat → Option Addr → Nat → Nat → Int → Int → World → Prop) (K : Value → World → Prop) (x0A : Option Addr) (x0n : Nat) (x0c : Nat) (x1A : Option Addr) (x1n : Nat) (x1c : Nat) (x12 : Int) (x13 : Int) (w : World) : Prop :=
  condP (decide (x13 < x12)) ((0 ≤ x13 ∧ x13 < ((x0n : Nat) : Int)) ∧ ∃ (a1 : Addr), x0A = some a1 ∧ ∃ (n2 : Int), w.cell? (a1.add x13.toNat) = some (.int .i64 n2) ∧ (0 ≤ x13 ∧ x13 < ((x1n : Nat) : Int)) ∧ ∃ (a3 : Addr), x1A = some a3 ∧ ∃ (n4 : Int), w.cell? (a3.add x13.toNat) = some (.int .i64 n4) ∧ condP (n2 != n4) (K (.bool false) w) (L0 x0A x0n x0c x1A x1n x1c x12 (IntKind.wrap .i64 (x13 + (1 : Int))) w)) (ref01_Ints.p3 K w)
def ref01_Ints.l0 (K : Value → World → Prop) (k : Nat) : Option Addr → Nat → Nat → Option Addr → Nat → Nat → Int → Int → World → Prop :=
  Nat.rec (motive := fun _ => Option Addr → Nat → Nat → Option Addr → Nat → Nat → Int → Int → World → Prop) (fun _ _ _ _ _ _ _ _ _ => False) (fun _ ih => ref01_Ints.b0 ih K) k
theorem ref01_Ints.l0_succ (K : Value → World → Prop) (k : Nat) (x0A : Option Addr) (x0n : Nat) (x0c : Nat) (x1A : Option Addr) (x1n : Nat) (x1c : Nat) (x12 : Int) (x13 : Int) (w : World) : ref01_Ints.l0 K (k + 1) x0A x0n x0c x1A x1n x1c x12 x13 w = ref01_Ints.b0 (ref01_Ints.l0 K k) K x0A x0n x0c x1A x1n x1c x12 x13 w := rfl
abbrev ref01_Ints.p2 (K : Value → World → Prop) (x0A : Option Addr) (x0n : Nat) (x0c : Nat) (x1A : Option Addr) (x1n : Nat) (x1c : Nat) (x12 : Int) (x13 : Int) (w : World) : Prop :=
  ∃ k, ref01_Ints.l0 K k x0A x0n x0c x1A x1n x1c x12 x13 w
abbrev ref01_Ints.p1 (K : Value → World → Prop) (x0A : Option Addr) (x0n : Nat) (x0c : Nat) (x1A : Option Addr) (x1n : Nat) (x1c : Nat) (w : World) : Prop :=
  ref01_Ints.p2 K x0A x0n x0c x1A x1n x1c ((x0n : Nat) : Int) 0 w
abbrev ref01_Ints.p0 (K : Value → World → Prop) (x0A : Option Addr) (x0n : Nat) (x0c : Nat) (x1A : Option Addr) (x1n : Nat) (x1c : Nat) (w : World) : Prop :=
  condP (((x0n : Nat) : Int) != ((x1n : Nat) : Int)) (K (.bool false) w) (ref01_Ints.p1 K x0A x0n x0c x1A x1n x1c w)
abbrev ref01_Ints.F (q0A : Option Addr) (q0n : Nat) (q0c : Nat) (q1A : Option Addr) (q1n : Nat) (q1c : Nat) (K : Value → World → Prop) (w : World) : Prop :=
  ref01_Ints.p0 K q0A q0n q0c q1A q1n q1c w
theorem ref01_Ints.ok {q0A : Option Addr} {q0n : Nat} {q0c : Nat} {q1A : Option Addr} {q1n : Nat} {q1c : Nat} {K : Value → World → Prop} {w : World} (h : ref01_Ints.F q0A q0n q0c q1A q1n q1c K w) :
    CallsE Try.prog 14 #[.slice q0A q0n q0c, .slice q1A q1n q1c] w K := by
  refine calls_of_J (n := 26) (rs := [.tmp 4]) Try.func14 rfl rfl rfl rfl ?_
  refine J_seq (fun σ w => vS (σ 0) fun x0A x0n x0c => vS (σ 1) fun x1A x1n x1c => ref01_Ints.p0 K x0A x0n x0c x1A x1n x1c w) ?_ ?_
  ·
    exact sh_sound _ _ _ _ (Eq.mp (by kernel_rfl) h)
  · intro σ w h
    obtain ⟨x0A, x0n, x0c, e0, h⟩ := vS_elim h
    obtain ⟨x1A, x1n, x1c, e1, h⟩ := vS_elim h
    refine J.sub ?_ (((Sub.base _).upd e0).upd e1)
    clear e0 e1
    refine J_seq (fun σ w => vS (σ 0) fun x0A x0n x0c => vS (σ 1) fun x1A x1n x1c => ref01_Ints.p1 K x0A x0n x0c x1A x1n x1c w) ?_ ?_
    ·
      exact sh_sound _ _ _ _ (Eq.mp (by kernel_rfl) h)
    · intro σ w h
      obtain ⟨x0A, x0n, x0c, e0, h⟩ := vS_elim h
      obtain ⟨x1A, x1n, x1c, e1, h⟩ := vS_elim h
      refine J.sub ?_ (((Sub.base _).upd e0).upd e1)
      clear e0 e1
      refine J_seq (fun σ w => ref01_Ints.p3 K w) ?_ ?_
      ·
        refine J_seq (fun σ w => vS (σ 0) fun x0A x0n x0c => vS (σ 1) fun x1A x1n x1c => vI .i64 (σ 12) fun x12 => vI .i64 (σ 13) fun x13 => ref01_Ints.p2 K x0A x0n x0c x1A x1n x1c x12 x13 w) ?_ ?_
        ·
          exact sh_sound _ _ _ _ (Eq.mp (by kernel_rfl) h)
        · intro σ w h
          obtain ⟨x0A, x0n, x0c, e0, h⟩ := vS_elim h
          obtain ⟨x1A, x1n, x1c, e1, h⟩ := vS_elim h
          obtain ⟨x12, e12, h⟩ := vI_elim h
          obtain ⟨x13, e13, h⟩ := vI_elim h
          refine J.sub ?_ (((((Sub.base _).upd e0).upd e1).upd e12).upd e13)
          clear e0 e1 e12 e13
          refine J_block ?_
          refine J_loop (fun k σ w => vS (σ 0) fun x0A x0n x0c => vS (σ 1) fun x1A x1n x1c => vI .i64 (σ 12) fun x12 => vI .i64 (σ 13) fun x13 => ref01_Ints.l0 K k x0A x0n x0c x1A x1n x1c x12 x13 w) (Eq.mp (by kernel_rfl) h) ?_ ?_
          · intro σ w h
            obtain ⟨x0A, x0n, x0c, e0, h⟩ := vS_elim h
            obtain ⟨x1A, x1n, x1c, e1, h⟩ := vS_elim h
            obtain ⟨x12, e12, h⟩ := vI_elim h
            obtain ⟨x13, e13, h⟩ := vI_elim h
            exact h
          · intro k0 σ w h
            obtain ⟨x0A, x0n, x0c, e0, h⟩ := vS_elim h
            obtain ⟨x1A, x1n, x1c, e1, h⟩ := vS_elim h
            obtain ⟨x12, e12, h⟩ := vI_elim h
            obtain ⟨x13, e13, h⟩ := vI_elim h
            refine J.sub ?_ (((((Sub.base _).upd e0).upd e1).upd e12).upd e13)
            clear e0 e1 e12 e13
            exact sh_sound _ _ _ _ (Eq.mp (by kernel_rfl) h)
      · intro σ w h
        refine J.sub ?_ (Sub.base _)
        exact sh_sound _ _ _ _ (Eq.mp (by kernel_rfl) h)

/-! ### hayloft/reloc.Right: function 15 -/
abbrev reloc_Right.p9 (L0 : Int → Int → Option Addr → Nat → Nat → Int → Int → World → Prop) (K : Value → World → Prop) (x1 : Int) (x5 : Int) (x11A : Option Addr) (x11n : Nat) (x11c : Nat) (x12 : Int) (x13 : Int) (w : World) : Prop :=
  L0 x1 x5 x11A x11n x11c x12 (IntKind.wrap .i64 (x13 + (1 : Int))) w
abbrev reloc_Right.p8 (L0 : Int → Int → Option Addr → Nat → Nat → Int → Int → World → Prop) (K : Value → World → Prop) (x1 : Int) (x7 : Int) (x11A : Option Addr) (x11n : Nat) (x11c : Nat) (x12 : Int) (x13 : Int) (w : World) : Prop :=
  reloc_Right.p9 L0 K x1 (IntKind.wrap .i64 (x7 + (8 : Int))) x11A x11n x11c x12 x13 w
abbrev reloc_Right.p7 (L0 : Int → Int → Option Addr → Nat → Nat → Int → Int → World → Prop) (K : Value → World → Prop) (x1 : Int) (x7 : Int) (x11A : Option Addr) (x11n : Nat) (x11c : Nat) (x12 : Int) (x13 : Int) (x31 : Bool) (w : World) : Prop :=
  condP x31 (K (.bool false) w) (reloc_Right.p8 L0 K x1 x7 x11A x11n x11c x12 x13 w)
abbrev reloc_Right.p6 (L0 : Int → Int → Option Addr → Nat → Nat → Int → Int → World → Prop) (K : Value → World → Prop) (x1 : Int) (x5 : Int) (x7 : Int) (x11A : Option Addr) (x11n : Nat) (x11c : Nat) (x12 : Int) (x13 : Int) (w : World) : Prop :=
  condP (decide (x7 < x5)) (reloc_Right.p7 L0 K x1 x7 x11A x11n x11c x12 x13 true w) ((8 : Int) ≠ 0 ∧ condP ((Int.tmod x7 8) != (0 : Int)) (reloc_Right.p7 L0 K x1 x7 x11A x11n x11c x12 x13 true w) (reloc_Right.p7 L0 K x1 x7 x11A x11n x11c x12 x13 (decide ((IntKind.wrap .i64 ((imax 0 x1) - (8 : Int))) < x7)) w))
abbrev reloc_Right.p5 (L0 : Int → Int → Option Addr → Nat → Nat → Int → Int → World → Prop) (K : Value → World → Prop) (x1 : Int) (x5 : Int) (x11A : Option Addr) (x11n : Nat) (x11c : Nat) (x12 : Int) (x13 : Int) (w : World) : Prop :=
  (0 ≤ x13 ∧ x13 < ((x11n : Nat) : Int)) ∧ ∃ (a1 : Addr), x11A = some a1 ∧ ∃ (n2 : Int), w.cell? (a1.add x13.toNat) = some (.int .i64 n2) ∧ reloc_Right.p6 L0 K x1 x5 n2 x11A x11n x11c x12 x13 w
abbrev reloc_Right.p10 (K : Value → World → Prop) (w : World) : Prop :=
  K (.bool true) w
abbrev reloc_Right.p4 (L0 : Int → Int → Option Addr → Nat → Nat → Int → Int → World → Prop) (K : Value → World → Prop) (x1 : Int) (x5 : Int) (x11A : Option Addr) (x11n : Nat) (x11c : Nat) (x12 : Int) (x13 : Int) (x14 : Bool) (w : World) : Prop :=
  condP x14 (reloc_Right.p5 L0 K x1 x5 x11A x11n x11c x12 x13 w) (reloc_Right.p10 K w)
abbrev reloc_Right.b0 (L0 : Int → Int → Option Addr → Nat → Nat → Int → Int → World → Prop) (K : Value → World → Prop) (x1 : Int) (x5 : Int) (x11A : Option Addr) (x11n : Nat) (x11c : Nat) (x12 : Int) (x13 : Int) (w : World) : Prop :=
  reloc_Right.p4 L0 K x1 x5 x11A x11n x11c x12 x13 (decide (x13 < x12)) w
def reloc_Right.l0 (K : Value → World → Prop) (k : Nat) : Int → Int → Option Addr → Nat → Nat → Int → Int → World → Prop :=
  Nat.rec (motive := fun _ => Int → Int → Option Addr → Nat → Nat → Int → Int → World → Prop) (fun _ _ _ _ _ _ _ _ => False) (fun _ ih => reloc_Right.b0 ih K) k
theorem reloc_Right.l0_succ (K : Value → World → Prop) (k : Nat) (x1 : Int) (x5 : Int) (x11A : Option Addr) (x11n : Nat) (x11c : Nat) (x12 : Int) (x13 : Int) (w : World) : reloc_Right.l0 K (k + 1) x1 x5 x11A x11n x11c x12 x13 w = reloc_Right.b0 (reloc_Right.l0 K k) K x1 x5 x11A x11n x11c x12 x13 w := rfl
abbrev reloc_Right.p3 (K : Value → World → Prop) (x1 : Int) (x5 : Int) (x11A : Option Addr) (x11n : Nat) (x11c : Nat) (x12 : Int) (x13 : Int) (w : World) : Prop :=
  ∃ k, reloc_Right.l0 K k x1 x5 x11A x11n x11c x12 x13 w
abbrev reloc_Right.p2 (K : Value → World → Prop) (x0A : Option Addr) (x0n : Nat) (x0c : Nat) (x1 : Int) (x5 : Int) (w : World) : Prop :=
  reloc_Right.p3 K x1 x5 x0A x0n x0c ((x0n : Nat) : Int) 0 w
abbrev reloc_Right.p1 (K : Value → World → Prop) (x0A : Option Addr) (x0n : Nat) (x0c : Nat) (x1 : Int) (w : World) : Prop :=
  reloc_Right.p2 K x0A x0n x0c x1 0 w
abbrev reloc_Right.p0 (K : Value → World → Prop) (x0A : Option Addr) (x0n : Nat) (x0c : Nat) (x1 : Int) (w : World) : Prop :=
  condP (decide ((8192 : Int) < ((x0n : Nat) : Int))) (K (.bool false) w) (reloc_Right.p1 K x0A x0n x0c x1 w)
abbrev reloc_Right.F (q0A : Option Addr) (q0n : Nat) (q0c : Nat) (q1 : Int) (K : Value → World → Prop) (w : World) : Prop :=
  reloc_Right.p0 K q0A q0n q0c q1 w
theorem reloc_Right.ok {q0A : Option Addr} {q0n : Nat} {q0c : Nat} {q1 : Int} {K : Value → World → Prop} {w : World} (h : reloc_Right.F q0A q0n q0c q1 K w) :
    CallsE Try.prog 15 #[.slice q0A q0n q0c, .int .i64 q1] w K := by
  refine calls_of_J (n := 35) (rs := [.tmp 4]) Try.func15 rfl rfl rfl rfl ?_
  refine J_seq (fun σ w => vS (σ 0) fun x0A x0n x0c => vI .i64 (σ 1) fun x1 => reloc_Right.p0 K x0A x0n x0c x1 w) ?_ ?_
  ·
    exact sh_sound _ _ _ _ (Eq.mp (by kernel_rfl) h)
  · intro σ w h
    obtain ⟨x0A, x0n, x0c, e0, h⟩ := vS_elim h
    obtain ⟨x1, e1, h⟩ := vI_elim h
    refine J.sub ?_ (((Sub.base _).upd e0).upd e1)
    clear e0 e1
    refine J_seq (fun σ w => vS (σ 0) fun x0A x0n x0c => vI .i64 (σ 1) fun x1 => reloc_Right.p1 K x0A x0n x0c x1 w) ?_ ?_
    ·
      exact sh_sound _ _ _ _ (Eq.mp (by kernel_rfl) h)
    · intro σ w h
      obtain ⟨x0A, x0n, x0c, e0, h⟩ := vS_elim h
      obtain ⟨x1, e1, h⟩ := vI_elim h
      refine J.sub ?_ (((Sub.base _).upd e0).upd e1)
      clear e0 e1
      refine J_seq (fun σ w => vS (σ 0) fun x0A x0n x0c => vI .i64 (σ 1) fun x1 => vI .i64 (σ 5) fun x5 => reloc_Right.p2 K x0A x0n x0c x1 x5 w) ?_ ?_
      ·
        exact sh_sound _ _ _ _ (Eq.mp (by kernel_rfl) h)
      · intro σ w h
        obtain ⟨x0A, x0n, x0c, e0, h⟩ := vS_elim h
        obtain ⟨x1, e1, h⟩ := vI_elim h
        obtain ⟨x5, e5, h⟩ := vI_elim h
        refine J.sub ?_ ((((Sub.base _).upd e0).upd e1).upd e5)
        clear e0 e1 e5
        refine J_seq (fun σ w => reloc_Right.p10 K w) ?_ ?_
        ·
          refine J_seq (fun σ w => vI .i64 (σ 1) fun x1 => vI .i64 (σ 5) fun x5 => vS (σ 11) fun x11A x11n x11c => vI .i64 (σ 12) fun x12 => vI .i64 (σ 13) fun x13 => reloc_Right.p3 K x1 x5 x11A x11n x11c x12 x13 w) ?_ ?_
          ·
            exact sh_sound _ _ _ _ (Eq.mp (by kernel_rfl) h)
          · intro σ w h
            obtain ⟨x1, e1, h⟩ := vI_elim h
            obtain ⟨x5, e5, h⟩ := vI_elim h
            obtain ⟨x11A, x11n, x11c, e11, h⟩ := vS_elim h
            obtain ⟨x12, e12, h⟩ := vI_elim h
            obtain ⟨x13, e13, h⟩ := vI_elim h
            refine J.sub ?_ ((((((Sub.base _).upd e1).upd e5).upd e11).upd e12).upd e13)
            clear e1 e5 e11 e12 e13
            refine J_block ?_
            refine J_loop (fun k σ w => vI .i64 (σ 1) fun x1 => vI .i64 (σ 5) fun x5 => vS (σ 11) fun x11A x11n x11c => vI .i64 (σ 12) fun x12 => vI .i64 (σ 13) fun x13 => reloc_Right.l0 K k x1 x5 x11A x11n x11c x12 x13 w) (Eq.mp (by kernel_rfl) h) ?_ ?_
            · intro σ w h
              obtain ⟨x1, e1, h⟩ := vI_elim h
              obtain ⟨x5, e5, h⟩ := vI_elim h
              obtain ⟨x11A, x11n, x11c, e11, h⟩ := vS_elim h
              obtain ⟨x12, e12, h⟩ := vI_elim h
              obtain ⟨x13, e13, h⟩ := vI_elim h
              exact h
            · intro k0 σ w h
              obtain ⟨x1, e1, h⟩ := vI_elim h
              obtain ⟨x5, e5, h⟩ := vI_elim h
              obtain ⟨x11A, x11n, x11c, e11, h⟩ := vS_elim h
              obtain ⟨x12, e12, h⟩ := vI_elim h
              obtain ⟨x13, e13, h⟩ := vI_elim h
              refine J.sub ?_ ((((((Sub.base _).upd e1).upd e5).upd e11).upd e12).upd e13)
              clear e1 e5 e11 e12 e13
              refine J_seq (fun σ w => vI .i64 (σ 1) fun x1 => vI .i64 (σ 5) fun x5 => vS (σ 11) fun x11A x11n x11c => vI .i64 (σ 12) fun x12 => vI .i64 (σ 13) fun x13 => vB (σ 14) fun x14 => reloc_Right.p4 (reloc_Right.l0 K k0) K x1 x5 x11A x11n x11c x12 x13 x14 w) ?_ ?_
              ·
                exact sh_sound _ _ _ _ (Eq.mp (by kernel_rfl) h)
              · intro σ w h
                obtain ⟨x1, e1, h⟩ := vI_elim h
                obtain ⟨x5, e5, h⟩ := vI_elim h
                obtain ⟨x11A, x11n, x11c, e11, h⟩ := vS_elim h
                obtain ⟨x12, e12, h⟩ := vI_elim h
                obtain ⟨x13, e13, h⟩ := vI_elim h
                obtain ⟨x14, e14, h⟩ := vB_elim h
                refine J.sub ?_ (((((((Sub.base _).upd e1).upd e5).upd e11).upd e12).upd e13).upd e14)
                clear e1 e5 e11 e12 e13 e14
                refine J_seq (fun σ w => vI .i64 (σ 1) fun x1 => vI .i64 (σ 5) fun x5 => vS (σ 11) fun x11A x11n x11c => vI .i64 (σ 12) fun x12 => vI .i64 (σ 13) fun x13 => reloc_Right.p5 (reloc_Right.l0 K k0) K x1 x5 x11A x11n x11c x12 x13 w) ?_ ?_
                ·
                  exact sh_sound _ _ _ _ (Eq.mp (by kernel_rfl) h)
                · intro σ w h
                  obtain ⟨x1, e1, h⟩ := vI_elim h
                  obtain ⟨x5, e5, h⟩ := vI_elim h
                  obtain ⟨x11A, x11n, x11c, e11, h⟩ := vS_elim h
                  obtain ⟨x12, e12, h⟩ := vI_elim h
                  obtain ⟨x13, e13, h⟩ := vI_elim h
                  refine J.sub ?_ ((((((Sub.base _).upd e1).upd e5).upd e11).upd e12).upd e13)
                  clear e1 e5 e11 e12 e13
                  refine J_seq (fun σ w => vI .i64 (σ 1) fun x1 => vI .i64 (σ 5) fun x5 => vS (σ 11) fun x11A x11n x11c => vI .i64 (σ 12) fun x12 => vI .i64 (σ 13) fun x13 => reloc_Right.p9 (reloc_Right.l0 K k0) K x1 x5 x11A x11n x11c x12 x13 w) ?_ ?_
                  ·
                    refine J_block ?_
                    refine J_seq (fun σ w => vI .i64 (σ 1) fun x1 => vI .i64 (σ 5) fun x5 => vI .i64 (σ 7) fun x7 => vS (σ 11) fun x11A x11n x11c => vI .i64 (σ 12) fun x12 => vI .i64 (σ 13) fun x13 => reloc_Right.p6 (reloc_Right.l0 K k0) K x1 x5 x7 x11A x11n x11c x12 x13 w) ?_ ?_
                    ·
                      exact sh_sound _ _ _ _ (Eq.mp (by kernel_rfl) h)
                    · intro σ w h
                      obtain ⟨x1, e1, h⟩ := vI_elim h
                      obtain ⟨x5, e5, h⟩ := vI_elim h
                      obtain ⟨x7, e7, h⟩ := vI_elim h
                      obtain ⟨x11A, x11n, x11c, e11, h⟩ := vS_elim h
                      obtain ⟨x12, e12, h⟩ := vI_elim h
                      obtain ⟨x13, e13, h⟩ := vI_elim h
                      refine J.sub ?_ (((((((Sub.base _).upd e1).upd e5).upd e7).upd e11).upd e12).upd e13)
                      clear e1 e5 e7 e11 e12 e13
                      refine J_seq (fun σ w => vI .i64 (σ 1) fun x1 => vI .i64 (σ 7) fun x7 => vS (σ 11) fun x11A x11n x11c => vI .i64 (σ 12) fun x12 => vI .i64 (σ 13) fun x13 => reloc_Right.p8 (reloc_Right.l0 K k0) K x1 x7 x11A x11n x11c x12 x13 w) ?_ ?_
                      ·
                        refine J_seq (fun σ w => vI .i64 (σ 1) fun x1 => vI .i64 (σ 7) fun x7 => vS (σ 11) fun x11A x11n x11c => vI .i64 (σ 12) fun x12 => vI .i64 (σ 13) fun x13 => vB (σ 31) fun x31 => reloc_Right.p7 (reloc_Right.l0 K k0) K x1 x7 x11A x11n x11c x12 x13 x31 w) ?_ ?_
                        ·
                          exact sh_sound _ _ _ _ (Eq.mp (by kernel_rfl) h)
                        · intro σ w h
                          obtain ⟨x1, e1, h⟩ := vI_elim h
                          obtain ⟨x7, e7, h⟩ := vI_elim h
                          obtain ⟨x11A, x11n, x11c, e11, h⟩ := vS_elim h
                          obtain ⟨x12, e12, h⟩ := vI_elim h
                          obtain ⟨x13, e13, h⟩ := vI_elim h
                          obtain ⟨x31, e31, h⟩ := vB_elim h
                          refine J.sub ?_ (((((((Sub.base _).upd e1).upd e7).upd e11).upd e12).upd e13).upd e31)
                          clear e1 e7 e11 e12 e13 e31
                          exact sh_sound _ _ _ _ (Eq.mp (by kernel_rfl) h)
                      · intro σ w h
                        obtain ⟨x1, e1, h⟩ := vI_elim h
                        obtain ⟨x7, e7, h⟩ := vI_elim h
                        obtain ⟨x11A, x11n, x11c, e11, h⟩ := vS_elim h
                        obtain ⟨x12, e12, h⟩ := vI_elim h
                        obtain ⟨x13, e13, h⟩ := vI_elim h
                        refine J.sub ?_ ((((((Sub.base _).upd e1).upd e7).upd e11).upd e12).upd e13)
                        clear e1 e7 e11 e12 e13
                        exact sh_sound _ _ _ _ (Eq.mp (by kernel_rfl) h)
                  · intro σ w h
                    obtain ⟨x1, e1, h⟩ := vI_elim h
                    obtain ⟨x5, e5, h⟩ := vI_elim h
                    obtain ⟨x11A, x11n, x11c, e11, h⟩ := vS_elim h
                    obtain ⟨x12, e12, h⟩ := vI_elim h
                    obtain ⟨x13, e13, h⟩ := vI_elim h
                    refine J.sub ?_ ((((((Sub.base _).upd e1).upd e5).upd e11).upd e12).upd e13)
                    clear e1 e5 e11 e12 e13
                    exact sh_sound _ _ _ _ (Eq.mp (by kernel_rfl) h)
        · intro σ w h
          refine J.sub ?_ (Sub.base _)
          exact sh_sound _ _ _ _ (Eq.mp (by kernel_rfl) h)

/-! ### hayloft/num.Get: function 16 -/
abbrev num_Get.p4 (L0 : Option Addr → Nat → Nat → Int → Int → World → Prop) (K : Value → World → Prop) (x0A : Option Addr) (x0n : Nat) (x0c : Nat) (x3 : Int) (x4 : Int) (w : World) : Prop :=
  (0 ≤ x4 ∧ x4 < ((x0n : Nat) : Int)) ∧ ∃ (a1 : Addr), x0A = some a1 ∧ ∃ (n2 : Int), w.cell? (a1.add x4.toNat) = some (.int .u8 n2) ∧ 0 ≤ (IntKind.wrap .i64 ((8 : Int) * x4)) ∧ L0 x0A x0n x0c (ibits .or .u64 x3 (ishl .u64 (IntKind.wrap .u64 n2) (IntKind.wrap .i64 ((8 : Int) * x4)))) (IntKind.wrap .i64 (x4 + (1 : Int))) w
abbrev num_Get.p5 (K : Value → World → Prop) (x3 : Int) (w : World) : Prop :=
  K (.int .u64 x3) w
abbrev num_Get.p3 (L0 : Option Addr → Nat → Nat → Int → Int → World → Prop) (K : Value → World → Prop) (x0A : Option Addr) (x0n : Nat) (x0c : Nat) (x3 : Int) (x4 : Int) (x12 : Bool) (w : World) : Prop :=
  condP x12 (num_Get.p4 L0 K x0A x0n x0c x3 x4 w) (num_Get.p5 K x3 w)
abbrev num_Get.b0 (L0 : Option Addr → Nat → Nat → Int → Int → World → Prop) (K : Value → World → Prop) (x0A : Option Addr) (x0n : Nat) (x0c : Nat) (x3 : Int) (x4 : Int) (w : World) : Prop :=
  condP (decide (x4 < ((x0n : Nat) : Int))) (num_Get.p3 L0 K x0A x0n x0c x3 x4 (decide (x4 < (8 : Int))) w) (num_Get.p3 L0 K x0A x0n x0c x3 x4 false w)
def num_Get.l0 (K : Value → World → Prop) (k : Nat) : Option Addr → Nat → Nat → Int → Int → World → Prop :=
  Nat.rec (motive := fun _ => Option Addr → Nat → Nat → Int → Int → World → Prop) (fun _ _ _ _ _ _ => False) (fun _ ih => num_Get.b0 ih K) k
theorem num_Get.l0_succ (K : Value → World → Prop) (k : Nat) (x0A : Option Addr) (x0n : Nat) (x0c : Nat) (x3 : Int) (x4 : Int) (w : World) : num_Get.l0 K (k + 1) x0A x0n x0c x3 x4 w = num_Get.b0 (num_Get.l0 K k) K x0A x0n x0c x3 x4 w := rfl
abbrev num_Get.p2 (K : Value → World → Prop) (x0A : Option Addr) (x0n : Nat) (x0c : Nat) (x3 : Int) (x4 : Int) (w : World) : Prop :=
  ∃ k, num_Get.l0 K k x0A x0n x0c x3 x4 w
abbrev num_Get.p1 (K : Value → World → Prop) (x0A : Option Addr) (x0n : Nat) (x0c : Nat) (x3 : Int) (w : World) : Prop :=
  num_Get.p2 K x0A x0n x0c x3 0 w
abbrev num_Get.p0 (K : Value → World → Prop) (x0A : Option Addr) (x0n : Nat) (x0c : Nat) (w : World) : Prop :=
  num_Get.p1 K x0A x0n x0c 0 w
abbrev num_Get.F (q0A : Option Addr) (q0n : Nat) (q0c : Nat) (K : Value → World → Prop) (w : World) : Prop :=
  num_Get.p0 K q0A q0n q0c w
theorem num_Get.ok {q0A : Option Addr} {q0n : Nat} {q0c : Nat} {K : Value → World → Prop} {w : World} (h : num_Get.F q0A q0n q0c K w) :
    CallsE Try.prog 16 #[.slice q0A q0n q0c] w K := by
  refine calls_of_J (n := 26) (rs := [.tmp 2]) Try.func16 rfl rfl rfl rfl ?_
  refine J_seq (fun σ w => vS (σ 0) fun x0A x0n x0c => num_Get.p0 K x0A x0n x0c w) ?_ ?_
  ·
    exact sh_sound _ _ _ _ (Eq.mp (by kernel_rfl) h)
  · intro σ w h
    obtain ⟨x0A, x0n, x0c, e0, h⟩ := vS_elim h
    refine J.sub ?_ ((Sub.base _).upd e0)
    clear e0
    refine J_seq (fun σ w => vS (σ 0) fun x0A x0n x0c => vI .u64 (σ 3) fun x3 => num_Get.p1 K x0A x0n x0c x3 w) ?_ ?_
    ·
      exact sh_sound _ _ _ _ (Eq.mp (by kernel_rfl) h)
    · intro σ w h
      obtain ⟨x0A, x0n, x0c, e0, h⟩ := vS_elim h
      obtain ⟨x3, e3, h⟩ := vI_elim h
      refine J.sub ?_ (((Sub.base _).upd e0).upd e3)
      clear e0 e3
      refine J_seq (fun σ w => vI .u64 (σ 3) fun x3 => num_Get.p5 K x3 w) ?_ ?_
      ·
        refine J_seq (fun σ w => vS (σ 0) fun x0A x0n x0c => vI .u64 (σ 3) fun x3 => vI .i64 (σ 4) fun x4 => num_Get.p2 K x0A x0n x0c x3 x4 w) ?_ ?_
        ·
          exact sh_sound _ _ _ _ (Eq.mp (by kernel_rfl) h)
        · intro σ w h
          obtain ⟨x0A, x0n, x0c, e0, h⟩ := vS_elim h
          obtain ⟨x3, e3, h⟩ := vI_elim h
          obtain ⟨x4, e4, h⟩ := vI_elim h
          refine J.sub ?_ ((((Sub.base _).upd e0).upd e3).upd e4)
          clear e0 e3 e4
          refine J_block ?_
          refine J_loop (fun k σ w => vS (σ 0) fun x0A x0n x0c => vI .u64 (σ 3) fun x3 => vI .i64 (σ 4) fun x4 => num_Get.l0 K k x0A x0n x0c x3 x4 w) (Eq.mp (by kernel_rfl) h) ?_ ?_
          · intro σ w h
            obtain ⟨x0A, x0n, x0c, e0, h⟩ := vS_elim h
            obtain ⟨x3, e3, h⟩ := vI_elim h
            obtain ⟨x4, e4, h⟩ := vI_elim h
            exact h
          · intro k0 σ w h
            obtain ⟨x0A, x0n, x0c, e0, h⟩ := vS_elim h
            obtain ⟨x3, e3, h⟩ := vI_elim h
            obtain ⟨x4, e4, h⟩ := vI_elim h
            refine J.sub ?_ ((((Sub.base _).upd e0).upd e3).upd e4)
            clear e0 e3 e4
            refine J_seq (fun σ w => vS (σ 0) fun x0A x0n x0c => vI .u64 (σ 3) fun x3 => vI .i64 (σ 4) fun x4 => num_Get.p4 (num_Get.l0 K k0) K x0A x0n x0c x3 x4 w) ?_ ?_
            ·
              refine J_seq (fun σ w => vS (σ 0) fun x0A x0n x0c => vI .u64 (σ 3) fun x3 => vI .i64 (σ 4) fun x4 => vB (σ 12) fun x12 => num_Get.p3 (num_Get.l0 K k0) K x0A x0n x0c x3 x4 x12 w) ?_ ?_
              ·
                exact sh_sound _ _ _ _ (Eq.mp (by kernel_rfl) h)
              · intro σ w h
                obtain ⟨x0A, x0n, x0c, e0, h⟩ := vS_elim h
                obtain ⟨x3, e3, h⟩ := vI_elim h
                obtain ⟨x4, e4, h⟩ := vI_elim h
                obtain ⟨x12, e12, h⟩ := vB_elim h
                refine J.sub ?_ (((((Sub.base _).upd e0).upd e3).upd e4).upd e12)
                clear e0 e3 e4 e12
                exact sh_sound _ _ _ _ (Eq.mp (by kernel_rfl) h)
            · intro σ w h
              obtain ⟨x0A, x0n, x0c, e0, h⟩ := vS_elim h
              obtain ⟨x3, e3, h⟩ := vI_elim h
              obtain ⟨x4, e4, h⟩ := vI_elim h
              refine J.sub ?_ ((((Sub.base _).upd e0).upd e3).upd e4)
              clear e0 e3 e4
              exact sh_sound _ _ _ _ (Eq.mp (by kernel_rfl) h)
      · intro σ w h
        obtain ⟨x3, e3, h⟩ := vI_elim h
        refine J.sub ?_ ((Sub.base _).upd e3)
        clear e3
        exact sh_sound _ _ _ _ (Eq.mp (by kernel_rfl) h)

/-! ### hayloft/reloc.Bytes: function 17 -/
abbrev reloc_Bytes.p5 (K : Value → World → Prop) (x4A : Option Addr) (x4n : Nat) (x4c : Nat) (w : World) : Prop :=
  K (.tuple #[.slice x4A x4n x4c, .int .i64 0]) w
abbrev reloc_Bytes.b0 (L0 : Option Addr → Nat → Nat → Int → Option Addr → Nat → Nat → Int → Int → World → Prop) (K : Value → World → Prop) (x4A : Option Addr) (x4n : Nat) (x4c : Nat) (x5 : Int) (x15A : Option Addr) (x15n : Nat) (x15c : Nat) (x16 : Int) (x17 : Int) (w : World) : Prop :=
  condP (decide (x17 < x16)) ((0 ≤ x17 ∧ x17 < ((x15n : Nat) : Int)) ∧ ∃ (a9 : Addr), x15A = some a9 ∧ ∃ (n10 : Int), w.cell? (a9.add x17.toNat) = some (.int .i64 n10) ∧ (8 : Int) ≠ 0 ∧ CallsE Try.prog 31 #[.int .u64 (IntKind.wrap .u64 (IntKind.wrap .i64 (Int.tdiv (IntKind.wrap .i64 (n10 - x5)) 8)))] w (fun v11 w12 => ∃ (A13 : Option Addr) (m14 : Nat) (c15 : Nat), v11 = .slice A13 m14 c15 ∧ SemJ Try.prog (Builtin.append_ #[22, 22] 22 #[.slice x4A x4n x4c, .slice A13 m14 c15]) (fun v16 w17 => ∃ (A18 : Option Addr) (m19 : Nat) (c20 : Nat), v16 = .slice A18 m19 c20 ∧ L0 A18 m19 c20 (IntKind.wrap .i64 (n10 + (8 : Int))) x15A x15n x15c x16 (IntKind.wrap .i64 (x17 + (1 : Int))) w17) w12)) (reloc_Bytes.p5 K x4A x4n x4c w)
def reloc_Bytes.l0 (K : Value → World → Prop) (k : Nat) : Option Addr → Nat → Nat → Int → Option Addr → Nat → Nat → Int → Int → World → Prop :=
  Nat.rec (motive := fun _ => Option Addr → Nat → Nat → Int → Option Addr → Nat → Nat → Int → Int → World → Prop) (fun _ _ _ _ _ _ _ _ _ _ => False) (fun _ ih => reloc_Bytes.b0 ih K) k
theorem reloc_Bytes.l0_succ (K : Value → World → Prop) (k : Nat) (x4A : Option Addr) (x4n : Nat) (x4c : Nat) (x5 : Int) (x15A : Option Addr) (x15n : Nat) (x15c : Nat) (x16 : Int) (x17 : Int) (w : World) : reloc_Bytes.l0 K (k + 1) x4A x4n x4c x5 x15A x15n x15c x16 x17 w = reloc_Bytes.b0 (reloc_Bytes.l0 K k) K x4A x4n x4c x5 x15A x15n x15c x16 x17 w := rfl
abbrev reloc_Bytes.p4 (K : Value → World → Prop) (x4A : Option Addr) (x4n : Nat) (x4c : Nat) (x5 : Int) (x15A : Option Addr) (x15n : Nat) (x15c : Nat) (x16 : Int) (x17 : Int) (w : World) : Prop :=
  ∃ k, reloc_Bytes.l0 K k x4A x4n x4c x5 x15A x15n x15c x16 x17 w
abbrev reloc_Bytes.p3 (K : Value → World → Prop) (x0A : Option Addr) (x0n : Nat) (x0c : Nat) (x4A : Option Addr) (x4n : Nat) (x4c : Nat) (x5 : Int) (w : World) : Prop :=
  reloc_Bytes.p4 K x4A x4n x4c x5 x0A x0n x0c ((x0n : Nat) : Int) 0 w
abbrev reloc_Bytes.p2 (K : Value → World → Prop) (x0A : Option Addr) (x0n : Nat) (x0c : Nat) (x4A : Option Addr) (x4n : Nat) (x4c : Nat) (w : World) : Prop :=
  reloc_Bytes.p3 K x0A x0n x0c x4A x4n x4c 0 w
abbrev reloc_Bytes.p1 (K : Value → World → Prop) (x0A : Option Addr) (x0n : Nat) (x0c : Nat) (w : World) : Prop :=
  CallsE Try.prog 31 #[.int .u64 (IntKind.wrap .u64 ((x0n : Nat) : Int))] w (fun v4 w5 => ∃ (A6 : Option Addr) (m7 : Nat) (c8 : Nat), v4 = .slice A6 m7 c8 ∧ reloc_Bytes.p2 K x0A x0n x0c A6 m7 c8 w5)
abbrev reloc_Bytes.p0 (K : Value → World → Prop) (x0A : Option Addr) (x0n : Nat) (x0c : Nat) (w : World) : Prop :=
  CallsE Try.prog 15 #[.slice x0A x0n x0c, .int .i64 65535] w (fun v1 w2 => ∃ (b3 : Bool), v1 = .bool b3 ∧ condP (!b3) (K (.tuple #[.slice none 0 0, .int .i64 4]) w2) (reloc_Bytes.p1 K x0A x0n x0c w2))
abbrev reloc_Bytes.F (q0A : Option Addr) (q0n : Nat) (q0c : Nat) (K : Value → World → Prop) (w : World) : Prop :=
  reloc_Bytes.p0 K q0A q0n q0c w
theorem reloc_Bytes.ok {q0A : Option Addr} {q0n : Nat} {q0c : Nat} {K : Value → World → Prop} {w : World} (h : reloc_Bytes.F q0A q0n q0c K w) :
    CallsE Try.prog 17 #[.slice q0A q0n q0c] w K := by
  refine calls_of_J (n := 33) (rs := [.tmp 2, .tmp 3]) Try.func17 rfl rfl rfl rfl ?_
  refine J_seq (fun σ w => vS (σ 0) fun x0A x0n x0c => reloc_Bytes.p0 K x0A x0n x0c w) ?_ ?_
  ·
    exact sh_sound _ _ _ _ (Eq.mp (by kernel_rfl) h)
  · intro σ w h
    obtain ⟨x0A, x0n, x0c, e0, h⟩ := vS_elim h
    refine J.sub ?_ ((Sub.base _).upd e0)
    clear e0
    refine J_seq (fun σ w => vS (σ 0) fun x0A x0n x0c => reloc_Bytes.p1 K x0A x0n x0c w) ?_ ?_
    ·
      exact sh_sound _ _ _ _ (Eq.mp (by kernel_rfl) h)
    · intro σ w h
      obtain ⟨x0A, x0n, x0c, e0, h⟩ := vS_elim h
      refine J.sub ?_ ((Sub.base _).upd e0)
      clear e0
      refine J_seq (fun σ w => vS (σ 0) fun x0A x0n x0c => vS (σ 4) fun x4A x4n x4c => reloc_Bytes.p2 K x0A x0n x0c x4A x4n x4c w) ?_ ?_
      ·
        exact sh_sound _ _ _ _ (Eq.mp (by kernel_rfl) h)
      · intro σ w h
        obtain ⟨x0A, x0n, x0c, e0, h⟩ := vS_elim h
        obtain ⟨x4A, x4n, x4c, e4, h⟩ := vS_elim h
        refine J.sub ?_ (((Sub.base _).upd e0).upd e4)
        clear e0 e4
        refine J_seq (fun σ w => vS (σ 0) fun x0A x0n x0c => vS (σ 4) fun x4A x4n x4c => vI .i64 (σ 5) fun x5 => reloc_Bytes.p3 K x0A x0n x0c x4A x4n x4c x5 w) ?_ ?_
        ·
          exact sh_sound _ _ _ _ (Eq.mp (by kernel_rfl) h)
        · intro σ w h
          obtain ⟨x0A, x0n, x0c, e0, h⟩ := vS_elim h
          obtain ⟨x4A, x4n, x4c, e4, h⟩ := vS_elim h
          obtain ⟨x5, e5, h⟩ := vI_elim h
          refine J.sub ?_ ((((Sub.base _).upd e0).upd e4).upd e5)
          clear e0 e4 e5
          refine J_seq (fun σ w => vS (σ 4) fun x4A x4n x4c => reloc_Bytes.p5 K x4A x4n x4c w) ?_ ?_
          ·
            refine J_seq (fun σ w => vS (σ 4) fun x4A x4n x4c => vI .i64 (σ 5) fun x5 => vS (σ 15) fun x15A x15n x15c => vI .i64 (σ 16) fun x16 => vI .i64 (σ 17) fun x17 => reloc_Bytes.p4 K x4A x4n x4c x5 x15A x15n x15c x16 x17 w) ?_ ?_
            ·
              exact sh_sound _ _ _ _ (Eq.mp (by kernel_rfl) h)
            · intro σ w h
              obtain ⟨x4A, x4n, x4c, e4, h⟩ := vS_elim h
              obtain ⟨x5, e5, h⟩ := vI_elim h
              obtain ⟨x15A, x15n, x15c, e15, h⟩ := vS_elim h
              obtain ⟨x16, e16, h⟩ := vI_elim h
              obtain ⟨x17, e17, h⟩ := vI_elim h
              refine J.sub ?_ ((((((Sub.base _).upd e4).upd e5).upd e15).upd e16).upd e17)
              clear e4 e5 e15 e16 e17
              refine J_block ?_
              refine J_loop (fun k σ w => vS (σ 4) fun x4A x4n x4c => vI .i64 (σ 5) fun x5 => vS (σ 15) fun x15A x15n x15c => vI .i64 (σ 16) fun x16 => vI .i64 (σ 17) fun x17 => reloc_Bytes.l0 K k x4A x4n x4c x5 x15A x15n x15c x16 x17 w) (Eq.mp (by kernel_rfl) h) ?_ ?_
              · intro σ w h
                obtain ⟨x4A, x4n, x4c, e4, h⟩ := vS_elim h
                obtain ⟨x5, e5, h⟩ := vI_elim h
                obtain ⟨x15A, x15n, x15c, e15, h⟩ := vS_elim h
                obtain ⟨x16, e16, h⟩ := vI_elim h
                obtain ⟨x17, e17, h⟩ := vI_elim h
                exact h
              · intro k0 σ w h
                obtain ⟨x4A, x4n, x4c, e4, h⟩ := vS_elim h
                obtain ⟨x5, e5, h⟩ := vI_elim h
                obtain ⟨x15A, x15n, x15c, e15, h⟩ := vS_elim h
                obtain ⟨x16, e16, h⟩ := vI_elim h
                obtain ⟨x17, e17, h⟩ := vI_elim h
                refine J.sub ?_ ((((((Sub.base _).upd e4).upd e5).upd e15).upd e16).upd e17)
                clear e4 e5 e15 e16 e17
                exact sh_sound _ _ _ _ (Eq.mp (by kernel_rfl) h)
          · intro σ w h
            obtain ⟨x4A, x4n, x4c, e4, h⟩ := vS_elim h
            refine J.sub ?_ ((Sub.base _).upd e4)
            clear e4
            exact sh_sound _ _ _ _ (Eq.mp (by kernel_rfl) h)

/-! ### hayloft/hayloftref16.Bytes: function 18 -/
abbrev ref16_Bytes.p5 (K : Value → World → Prop) (x4A : Option Addr) (x4n : Nat) (x4c : Nat) (w : World) : Prop :=
  K (.tuple #[.slice x4A x4n x4c, .int .i64 0]) w
abbrev ref16_Bytes.b0 (L0 : Option Addr → Nat → Nat → Int → Option Addr → Nat → Nat → Int → Int → World → Prop) (K : Value → World → Prop) (x4A : Option Addr) (x4n : Nat) (x4c : Nat) (x5 : Int) (x15A : Option Addr) (x15n : Nat) (x15c : Nat) (x16 : Int) (x17 : Int) (w : World) : Prop :=
  condP (decide (x17 < x16)) ((0 ≤ x17 ∧ x17 < ((x15n : Nat) : Int)) ∧ ∃ (a9 : Addr), x15A = some a9 ∧ ∃ (n10 : Int), w.cell? (a9.add x17.toNat) = some (.int .i64 n10) ∧ (8 : Int) ≠ 0 ∧ CallsE Try.prog 32 #[.int .u64 (IntKind.wrap .u64 (IntKind.wrap .i64 ((IntKind.wrap .i64 (Int.tdiv n10 8)) - x5)))] w (fun v11 w12 => ∃ (A13 : Option Addr) (m14 : Nat) (c15 : Nat), v11 = .slice A13 m14 c15 ∧ SemJ Try.prog (Builtin.append_ #[22, 22] 22 #[.slice x4A x4n x4c, .slice A13 m14 c15]) (fun v16 w17 => ∃ (A18 : Option Addr) (m19 : Nat) (c20 : Nat), v16 = .slice A18 m19 c20 ∧ (8 : Int) ≠ 0 ∧ L0 A18 m19 c20 (IntKind.wrap .i64 ((IntKind.wrap .i64 (Int.tdiv n10 8)) + (1 : Int))) x15A x15n x15c x16 (IntKind.wrap .i64 (x17 + (1 : Int))) w17) w12)) (ref16_Bytes.p5 K x4A x4n x4c w)
def ref16_Bytes.l0 (K : Value → World → Prop) (k : Nat) : Option Addr → Nat → Nat → Int → Option Addr → Nat → Nat → Int → Int → World → Prop :=
  Nat.rec (motive := fun _ => Option Addr → Nat → Nat → Int → Option Addr → Nat → Nat → Int → Int → World → Prop) (fun _ _ _ _ _ _ _ _ _ _ => False) (fun _ ih => ref16_Bytes.b0 ih K) k
theorem ref16_Bytes.l0_succ (K : Value → World → Prop) (k : Nat) (x4A : Option Addr) (x4n : Nat) (x4c : Nat) (x5 : Int) (x15A : Option Addr) (x15n : Nat) (x15c : Nat) (x16 : Int) (x17 : Int) (w : World) : ref16_Bytes.l0 K (k + 1) x4A x4n x4c x5 x15A x15n x15c x16 x17 w = ref16_Bytes.b0 (ref16_Bytes.l0 K k) K x4A x4n x4c x5 x15A x15n x15c x16 x17 w := rfl
abbrev ref16_Bytes.p4 (K : Value → World → Prop) (x4A : Option Addr) (x4n : Nat) (x4c : Nat) (x5 : Int) (x15A : Option Addr) (x15n : Nat) (x15c : Nat) (x16 : Int) (x17 : Int) (w : World) : Prop :=
  ∃ k, ref16_Bytes.l0 K k x4A x4n x4c x5 x15A x15n x15c x16 x17 w
abbrev ref16_Bytes.p3 (K : Value → World → Prop) (x0A : Option Addr) (x0n : Nat) (x0c : Nat) (x4A : Option Addr) (x4n : Nat) (x4c : Nat) (x5 : Int) (w : World) : Prop :=
  ref16_Bytes.p4 K x4A x4n x4c x5 x0A x0n x0c ((x0n : Nat) : Int) 0 w
abbrev ref16_Bytes.p2 (K : Value → World → Prop) (x0A : Option Addr) (x0n : Nat) (x0c : Nat) (x4A : Option Addr) (x4n : Nat) (x4c : Nat) (w : World) : Prop :=
  ref16_Bytes.p3 K x0A x0n x0c x4A x4n x4c 0 w
abbrev ref16_Bytes.p1 (K : Value → World → Prop) (x0A : Option Addr) (x0n : Nat) (x0c : Nat) (w : World) : Prop :=
  CallsE Try.prog 32 #[.int .u64 (IntKind.wrap .u64 ((x0n : Nat) : Int))] w (fun v4 w5 => ∃ (A6 : Option Addr) (m7 : Nat) (c8 : Nat), v4 = .slice A6 m7 c8 ∧ ref16_Bytes.p2 K x0A x0n x0c A6 m7 c8 w5)
abbrev ref16_Bytes.p0 (K : Value → World → Prop) (x0A : Option Addr) (x0n : Nat) (x0c : Nat) (w : World) : Prop :=
  CallsE Try.prog 19 #[.slice x0A x0n x0c, .int .i64 65535] w (fun v1 w2 => ∃ (b3 : Bool), v1 = .bool b3 ∧ condP (!b3) (K (.tuple #[.slice none 0 0, .int .i64 4]) w2) (ref16_Bytes.p1 K x0A x0n x0c w2))
abbrev ref16_Bytes.F (q0A : Option Addr) (q0n : Nat) (q0c : Nat) (K : Value → World → Prop) (w : World) : Prop :=
  ref16_Bytes.p0 K q0A q0n q0c w
theorem ref16_Bytes.ok {q0A : Option Addr} {q0n : Nat} {q0c : Nat} {K : Value → World → Prop} {w : World} (h : ref16_Bytes.F q0A q0n q0c K w) :
    CallsE Try.prog 18 #[.slice q0A q0n q0c] w K := by
  refine calls_of_J (n := 34) (rs := [.tmp 2, .tmp 3]) Try.func18 rfl rfl rfl rfl ?_
  refine J_seq (fun σ w => vS (σ 0) fun x0A x0n x0c => ref16_Bytes.p0 K x0A x0n x0c w) ?_ ?_
  ·
    exact sh_sound _ _ _ _ (Eq.mp (by kernel_rfl) h)
  · intro σ w h
    obtain ⟨x0A, x0n, x0c, e0, h⟩ := vS_elim h
    refine J.sub ?_ ((Sub.base _).upd e0)
    clear e0
    refine J_seq (fun σ w => vS (σ 0) fun x0A x0n x0c => ref16_Bytes.p1 K x0A x0n x0c w) ?_ ?_
    ·
      exact sh_sound _ _ _ _ (Eq.mp (by kernel_rfl) h)
    · intro σ w h
      obtain ⟨x0A, x0n, x0c, e0, h⟩ := vS_elim h
      refine J.sub ?_ ((Sub.base _).upd e0)
      clear e0
      refine J_seq (fun σ w => vS (σ 0) fun x0A x0n x0c => vS (σ 4) fun x4A x4n x4c => ref16_Bytes.p2 K x0A x0n x0c x4A x4n x4c w) ?_ ?_
      ·
        exact sh_sound _ _ _ _ (Eq.mp (by kernel_rfl) h)
      · intro σ w h
        obtain ⟨x0A, x0n, x0c, e0, h⟩ := vS_elim h
        obtain ⟨x4A, x4n, x4c, e4, h⟩ := vS_elim h
        refine J.sub ?_ (((Sub.base _).upd e0).upd e4)
        clear e0 e4
        refine J_seq (fun σ w => vS (σ 0) fun x0A x0n x0c => vS (σ 4) fun x4A x4n x4c => vI .i64 (σ 5) fun x5 => ref16_Bytes.p3 K x0A x0n x0c x4A x4n x4c x5 w) ?_ ?_
        ·
          exact sh_sound _ _ _ _ (Eq.mp (by kernel_rfl) h)
        · intro σ w h
          obtain ⟨x0A, x0n, x0c, e0, h⟩ := vS_elim h
          obtain ⟨x4A, x4n, x4c, e4, h⟩ := vS_elim h
          obtain ⟨x5, e5, h⟩ := vI_elim h
          refine J.sub ?_ ((((Sub.base _).upd e0).upd e4).upd e5)
          clear e0 e4 e5
          refine J_seq (fun σ w => vS (σ 4) fun x4A x4n x4c => ref16_Bytes.p5 K x4A x4n x4c w) ?_ ?_
          ·
            refine J_seq (fun σ w => vS (σ 4) fun x4A x4n x4c => vI .i64 (σ 5) fun x5 => vS (σ 15) fun x15A x15n x15c => vI .i64 (σ 16) fun x16 => vI .i64 (σ 17) fun x17 => ref16_Bytes.p4 K x4A x4n x4c x5 x15A x15n x15c x16 x17 w) ?_ ?_
            ·
              exact sh_sound _ _ _ _ (Eq.mp (by kernel_rfl) h)
            · intro σ w h
              obtain ⟨x4A, x4n, x4c, e4, h⟩ := vS_elim h
              obtain ⟨x5, e5, h⟩ := vI_elim h
              obtain ⟨x15A, x15n, x15c, e15, h⟩ := vS_elim h
              obtain ⟨x16, e16, h⟩ := vI_elim h
              obtain ⟨x17, e17, h⟩ := vI_elim h
              refine J.sub ?_ ((((((Sub.base _).upd e4).upd e5).upd e15).upd e16).upd e17)
              clear e4 e5 e15 e16 e17
              refine J_block ?_
              refine J_loop (fun k σ w => vS (σ 4) fun x4A x4n x4c => vI .i64 (σ 5) fun x5 => vS (σ 15) fun x15A x15n x15c => vI .i64 (σ 16) fun x16 => vI .i64 (σ 17) fun x17 => ref16_Bytes.l0 K k x4A x4n x4c x5 x15A x15n x15c x16 x17 w) (Eq.mp (by kernel_rfl) h) ?_ ?_
              · intro σ w h
                obtain ⟨x4A, x4n, x4c, e4, h⟩ := vS_elim h
                obtain ⟨x5, e5, h⟩ := vI_elim h
                obtain ⟨x15A, x15n, x15c, e15, h⟩ := vS_elim h
                obtain ⟨x16, e16, h⟩ := vI_elim h
                obtain ⟨x17, e17, h⟩ := vI_elim h
                exact h
              · intro k0 σ w h
                obtain ⟨x4A, x4n, x4c, e4, h⟩ := vS_elim h
                obtain ⟨x5, e5, h⟩ := vI_elim h
                obtain ⟨x15A, x15n, x15c, e15, h⟩ := vS_elim h
                obtain ⟨x16, e16, h⟩ := vI_elim h
                obtain ⟨x17, e17, h⟩ := vI_elim h
                refine J.sub ?_ ((((((Sub.base _).upd e4).upd e5).upd e15).upd e16).upd e17)
                clear e4 e5 e15 e16 e17
                exact sh_sound _ _ _ _ (Eq.mp (by kernel_rfl) h)
          · intro σ w h
            obtain ⟨x4A, x4n, x4c, e4, h⟩ := vS_elim h
            refine J.sub ?_ ((Sub.base _).upd e4)
            clear e4
            exact sh_sound _ _ _ _ (Eq.mp (by kernel_rfl) h)

/-! ### hayloft/hayloftref16.Right: function 19 -/
abbrev ref16_Right.p7 (L0 : Option Addr → Nat → Nat → Int → Option Addr → Nat → Nat → Int → Int → World → Prop) (K : Value → World → Prop) (x0A : Option Addr) (x0n : Nat) (x0c : Nat) (x1 : Int) (x10A : Option Addr) (x10n : Nat) (x10c : Nat) (x11 : Int) (x12 : Int) (w : World) : Prop :=
  L0 x0A x0n x0c x1 x10A x10n x10c x11 (IntKind.wrap .i64 (x12 + (1 : Int))) w
abbrev ref16_Right.p6 (L0 : Option Addr → Nat → Nat → Int → Option Addr → Nat → Nat → Int → Int → World → Prop) (K : Value → World → Prop) (x0A : Option Addr) (x0n : Nat) (x0c : Nat) (x1 : Int) (x10A : Option Addr) (x10n : Nat) (x10c : Nat) (x11 : Int) (x12 : Int) (x43 : Bool) (w : World) : Prop :=
  condP x43 (K (.bool false) w) (ref16_Right.p7 L0 K x0A x0n x0c x1 x10A x10n x10c x11 x12 w)
abbrev ref16_Right.p5 (L0 : Option Addr → Nat → Nat → Int → Option Addr → Nat → Nat → Int → Int → World → Prop) (K : Value → World → Prop) (x0A : Option Addr) (x0n : Nat) (x0c : Nat) (x1 : Int) (x5 : Int) (x6 : Int) (x10A : Option Addr) (x10n : Nat) (x10c : Nat) (x11 : Int) (x12 : Int) (w : World) : Prop :=
  condP (decide (x6 < (0 : Int))) (ref16_Right.p6 L0 K x0A x0n x0c x1 x10A x10n x10c x11 x12 true w) ((8 : Int) ≠ 0 ∧ condP ((Int.tmod x6 8) != (0 : Int)) (ref16_Right.p6 L0 K x0A x0n x0c x1 x10A x10n x10c x11 x12 true w) (condP (decide ((IntKind.wrap .i64 ((imax 0 x1) - (8 : Int))) < x6)) (ref16_Right.p6 L0 K x0A x0n x0c x1 x10A x10n x10c x11 x12 true w) (condP (decide ((0 : Int) < x5)) ((0 ≤ (IntKind.wrap .i64 (x5 - (1 : Int))) ∧ (IntKind.wrap .i64 (x5 - (1 : Int))) < ((x0n : Nat) : Int)) ∧ ∃ (a3 : Addr), x0A = some a3 ∧ ∃ (n4 : Int), w.cell? (a3.add ((IntKind.wrap .i64 (x5 - (1 : Int))).toNat)) = some (.int .i64 n4) ∧ ref16_Right.p6 L0 K x0A x0n x0c x1 x10A x10n x10c x11 x12 (decide (x6 ≤ n4)) w) (ref16_Right.p6 L0 K x0A x0n x0c x1 x10A x10n x10c x11 x12 false w))))
abbrev ref16_Right.p4 (L0 : Option Addr → Nat → Nat → Int → Option Addr → Nat → Nat → Int → Int → World → Prop) (K : Value → World → Prop) (x0A : Option Addr) (x0n : Nat) (x0c : Nat) (x1 : Int) (x10A : Option Addr) (x10n : Nat) (x10c : Nat) (x11 : Int) (x12 : Int) (w : World) : Prop :=
  (0 ≤ x12 ∧ x12 < ((x10n : Nat) : Int)) ∧ ∃ (a1 : Addr), x10A = some a1 ∧ ∃ (n2 : Int), w.cell? (a1.add x12.toNat) = some (.int .i64 n2) ∧ ref16_Right.p5 L0 K x0A x0n x0c x1 x12 n2 x10A x10n x10c x11 x12 w
abbrev ref16_Right.p8 (K : Value → World → Prop) (w : World) : Prop :=
  K (.bool true) w
abbrev ref16_Right.p3 (L0 : Option Addr → Nat → Nat → Int → Option Addr → Nat → Nat → Int → Int → World → Prop) (K : Value → World → Prop) (x0A : Option Addr) (x0n : Nat) (x0c : Nat) (x1 : Int) (x10A : Option Addr) (x10n : Nat) (x10c : Nat) (x11 : Int) (x12 : Int) (x13 : Bool) (w : World) : Prop :=
  condP x13 (ref16_Right.p4 L0 K x0A x0n x0c x1 x10A x10n x10c x11 x12 w) (ref16_Right.p8 K w)
abbrev ref16_Right.b0 (L0 : Option Addr → Nat → Nat → Int → Option Addr → Nat → Nat → Int → Int → World → Prop) (K : Value → World → Prop) (x0A : Option Addr) (x0n : Nat) (x0c : Nat) (x1 : Int) (x10A : Option Addr) (x10n : Nat) (x10c : Nat) (x11 : Int) (x12 : Int) (w : World) : Prop :=
  ref16_Right.p3 L0 K x0A x0n x0c x1 x10A x10n x10c x11 x12 (decide (x12 < x11)) w
def ref16_Right.l0 (K : Value → World → Prop) (k : Nat) : Option Addr → Nat → Nat → Int → Option Addr → Nat → Nat → Int → Int → World → Prop :=
  Nat.rec (motive := fun _ => Option Addr → Nat → Nat → Int → Option Addr → Nat → Nat → Int → Int → World → Prop) (fun _ _ _ _ _ _ _ _ _ _ => False) (fun _ ih => ref16_Right.b0 ih K) k
theorem ref16_Right.l0_succ (K : Value → World → Prop) (k : Nat) (x0A : Option Addr) (x0n : Nat) (x0c : Nat) (x1 : Int) (x10A : Option Addr) (x10n : Nat) (x10c : Nat) (x11 : Int) (x12 : Int) (w : World) : ref16_Right.l0 K (k + 1) x0A x0n x0c x1 x10A x10n x10c x11 x12 w = ref16_Right.b0 (ref16_Right.l0 K k) K x0A x0n x0c x1 x10A x10n x10c x11 x12 w := rfl
abbrev ref16_Right.p2 (K : Value → World → Prop) (x0A : Option Addr) (x0n : Nat) (x0c : Nat) (x1 : Int) (x10A : Option Addr) (x10n : Nat) (x10c : Nat) (x11 : Int) (x12 : Int) (w : World) : Prop :=
  ∃ k, ref16_Right.l0 K k x0A x0n x0c x1 x10A x10n x10c x11 x12 w
abbrev ref16_Right.p1 (K : Value → World → Prop) (x0A : Option Addr) (x0n : Nat) (x0c : Nat) (x1 : Int) (w : World) : Prop :=
  ref16_Right.p2 K x0A x0n x0c x1 x0A x0n x0c ((x0n : Nat) : Int) 0 w
abbrev ref16_Right.p0 (K : Value → World → Prop) (x0A : Option Addr) (x0n : Nat) (x0c : Nat) (x1 : Int) (w : World) : Prop :=
  condP (decide ((8192 : Int) < ((x0n : Nat) : Int))) (K (.bool false) w) (ref16_Right.p1 K x0A x0n x0c x1 w)
abbrev ref16_Right.F (q0A : Option Addr) (q0n : Nat) (q0c : Nat) (q1 : Int) (K : Value → World → Prop) (w : World) : Prop :=
  ref16_Right.p0 K q0A q0n q0c q1 w
theorem ref16_Right.ok {q0A : Option Addr} {q0n : Nat} {q0c : Nat} {q1 : Int} {K : Value → World → Prop} {w : World} (h : ref16_Right.F q0A q0n q0c q1 K w) :
    CallsE Try.prog 19 #[.slice q0A q0n q0c, .int .i64 q1] w K := by
  refine calls_of_J (n := 45) (rs := [.tmp 4]) Try.func19 rfl rfl rfl rfl ?_
  refine J_seq (fun σ w => vS (σ 0) fun x0A x0n x0c => vI .i64 (σ 1) fun x1 => ref16_Right.p0 K x0A x0n x0c x1 w) ?_ ?_
  ·
    exact sh_sound _ _ _ _ (Eq.mp (by kernel_rfl) h)
  · intro σ w h
    obtain ⟨x0A, x0n, x0c, e0, h⟩ := vS_elim h
    obtain ⟨x1, e1, h⟩ := vI_elim h
    refine J.sub ?_ (((Sub.base _).upd e0).upd e1)
    clear e0 e1
    refine J_seq (fun σ w => vS (σ 0) fun x0A x0n x0c => vI .i64 (σ 1) fun x1 => ref16_Right.p1 K x0A x0n x0c x1 w) ?_ ?_
    ·
      exact sh_sound _ _ _ _ (Eq.mp (by kernel_rfl) h)
    · intro σ w h
      obtain ⟨x0A, x0n, x0c, e0, h⟩ := vS_elim h
      obtain ⟨x1, e1, h⟩ := vI_elim h
      refine J.sub ?_ (((Sub.base _).upd e0).upd e1)
      clear e0 e1
      refine J_seq (fun σ w => ref16_Right.p8 K w) ?_ ?_
      ·
        refine J_seq (fun σ w => vS (σ 0) fun x0A x0n x0c => vI .i64 (σ 1) fun x1 => vS (σ 10) fun x10A x10n x10c => vI .i64 (σ 11) fun x11 => vI .i64 (σ 12) fun x12 => ref16_Right.p2 K x0A x0n x0c x1 x10A x10n x10c x11 x12 w) ?_ ?_
        ·
          exact sh_sound _ _ _ _ (Eq.mp (by kernel_rfl) h)
        · intro σ w h
          obtain ⟨x0A, x0n, x0c, e0, h⟩ := vS_elim h
          obtain ⟨x1, e1, h⟩ := vI_elim h
          obtain ⟨x10A, x10n, x10c, e10, h⟩ := vS_elim h
          obtain ⟨x11, e11, h⟩ := vI_elim h
          obtain ⟨x12, e12, h⟩ := vI_elim h
          refine J.sub ?_ ((((((Sub.base _).upd e0).upd e1).upd e10).upd e11).upd e12)
          clear e0 e1 e10 e11 e12
          refine J_block ?_
          refine J_loop (fun k σ w => vS (σ 0) fun x0A x0n x0c => vI .i64 (σ 1) fun x1 => vS (σ 10) fun x10A x10n x10c => vI .i64 (σ 11) fun x11 => vI .i64 (σ 12) fun x12 => ref16_Right.l0 K k x0A x0n x0c x1 x10A x10n x10c x11 x12 w) (Eq.mp (by kernel_rfl) h) ?_ ?_
          · intro σ w h
            obtain ⟨x0A, x0n, x0c, e0, h⟩ := vS_elim h
            obtain ⟨x1, e1, h⟩ := vI_elim h
            obtain ⟨x10A, x10n, x10c, e10, h⟩ := vS_elim h
            obtain ⟨x11, e11, h⟩ := vI_elim h
            obtain ⟨x12, e12, h⟩ := vI_elim h
            exact h
          · intro k0 σ w h
            obtain ⟨x0A, x0n, x0c, e0, h⟩ := vS_elim h
            obtain ⟨x1, e1, h⟩ := vI_elim h
            obtain ⟨x10A, x10n, x10c, e10, h⟩ := vS_elim h
            obtain ⟨x11, e11, h⟩ := vI_elim h
            obtain ⟨x12, e12, h⟩ := vI_elim h
            refine J.sub ?_ ((((((Sub.base _).upd e0).upd e1).upd e10).upd e11).upd e12)
            clear e0 e1 e10 e11 e12
            refine J_seq (fun σ w => vS (σ 0) fun x0A x0n x0c => vI .i64 (σ 1) fun x1 => vS (σ 10) fun x10A x10n x10c => vI .i64 (σ 11) fun x11 => vI .i64 (σ 12) fun x12 => vB (σ 13) fun x13 => ref16_Right.p3 (ref16_Right.l0 K k0) K x0A x0n x0c x1 x10A x10n x10c x11 x12 x13 w) ?_ ?_
            ·
              exact sh_sound _ _ _ _ (Eq.mp (by kernel_rfl) h)
            · intro σ w h
              obtain ⟨x0A, x0n, x0c, e0, h⟩ := vS_elim h
              obtain ⟨x1, e1, h⟩ := vI_elim h
              obtain ⟨x10A, x10n, x10c, e10, h⟩ := vS_elim h
              obtain ⟨x11, e11, h⟩ := vI_elim h
              obtain ⟨x12, e12, h⟩ := vI_elim h
              obtain ⟨x13, e13, h⟩ := vB_elim h
              refine J.sub ?_ (((((((Sub.base _).upd e0).upd e1).upd e10).upd e11).upd e12).upd e13)
              clear e0 e1 e10 e11 e12 e13
              refine J_seq (fun σ w => vS (σ 0) fun x0A x0n x0c => vI .i64 (σ 1) fun x1 => vS (σ 10) fun x10A x10n x10c => vI .i64 (σ 11) fun x11 => vI .i64 (σ 12) fun x12 => ref16_Right.p4 (ref16_Right.l0 K k0) K x0A x0n x0c x1 x10A x10n x10c x11 x12 w) ?_ ?_
              ·
                exact sh_sound _ _ _ _ (Eq.mp (by kernel_rfl) h)
              · intro σ w h
                obtain ⟨x0A, x0n, x0c, e0, h⟩ := vS_elim h
                obtain ⟨x1, e1, h⟩ := vI_elim h
                obtain ⟨x10A, x10n, x10c, e10, h⟩ := vS_elim h
                obtain ⟨x11, e11, h⟩ := vI_elim h
                obtain ⟨x12, e12, h⟩ := vI_elim h
                refine J.sub ?_ ((((((Sub.base _).upd e0).upd e1).upd e10).upd e11).upd e12)
                clear e0 e1 e10 e11 e12
                refine J_seq (fun σ w => vS (σ 0) fun x0A x0n x0c => vI .i64 (σ 1) fun x1 => vS (σ 10) fun x10A x10n x10c => vI .i64 (σ 11) fun x11 => vI .i64 (σ 12) fun x12 => ref16_Right.p7 (ref16_Right.l0 K k0) K x0A x0n x0c x1 x10A x10n x10c x11 x12 w) ?_ ?_
                ·
                  refine J_block ?_
                  refine J_seq (fun σ w => vS (σ 0) fun x0A x0n x0c => vI .i64 (σ 1) fun x1 => vI .i64 (σ 5) fun x5 => vI .i64 (σ 6) fun x6 => vS (σ 10) fun x10A x10n x10c => vI .i64 (σ 11) fun x11 => vI .i64 (σ 12) fun x12 => ref16_Right.p5 (ref16_Right.l0 K k0) K x0A x0n x0c x1 x5 x6 x10A x10n x10c x11 x12 w) ?_ ?_
                  ·
                    exact sh_sound _ _ _ _ (Eq.mp (by kernel_rfl) h)
                  · intro σ w h
                    obtain ⟨x0A, x0n, x0c, e0, h⟩ := vS_elim h
                    obtain ⟨x1, e1, h⟩ := vI_elim h
                    obtain ⟨x5, e5, h⟩ := vI_elim h
                    obtain ⟨x6, e6, h⟩ := vI_elim h
                    obtain ⟨x10A, x10n, x10c, e10, h⟩ := vS_elim h
                    obtain ⟨x11, e11, h⟩ := vI_elim h
                    obtain ⟨x12, e12, h⟩ := vI_elim h
                    refine J.sub ?_ ((((((((Sub.base _).upd e0).upd e1).upd e5).upd e6).upd e10).upd e11).upd e12)
                    clear e0 e1 e5 e6 e10 e11 e12
                    refine J_seq (fun σ w => vS (σ 0) fun x0A x0n x0c => vI .i64 (σ 1) fun x1 => vS (σ 10) fun x10A x10n x10c => vI .i64 (σ 11) fun x11 => vI .i64 (σ 12) fun x12 => vB (σ 43) fun x43 => ref16_Right.p6 (ref16_Right.l0 K k0) K x0A x0n x0c x1 x10A x10n x10c x11 x12 x43 w) ?_ ?_
                    ·
                      exact sh_sound _ _ _ _ (Eq.mp (by kernel_rfl) h)
                    · intro σ w h
                      obtain ⟨x0A, x0n, x0c, e0, h⟩ := vS_elim h
                      obtain ⟨x1, e1, h⟩ := vI_elim h
                      obtain ⟨x10A, x10n, x10c, e10, h⟩ := vS_elim h
                      obtain ⟨x11, e11, h⟩ := vI_elim h
                      obtain ⟨x12, e12, h⟩ := vI_elim h
                      obtain ⟨x43, e43, h⟩ := vB_elim h
                      refine J.sub ?_ (((((((Sub.base _).upd e0).upd e1).upd e10).upd e11).upd e12).upd e43)
                      clear e0 e1 e10 e11 e12 e43
                      exact sh_sound _ _ _ _ (Eq.mp (by kernel_rfl) h)
                · intro σ w h
                  obtain ⟨x0A, x0n, x0c, e0, h⟩ := vS_elim h
                  obtain ⟨x1, e1, h⟩ := vI_elim h
                  obtain ⟨x10A, x10n, x10c, e10, h⟩ := vS_elim h
                  obtain ⟨x11, e11, h⟩ := vI_elim h
                  obtain ⟨x12, e12, h⟩ := vI_elim h
                  refine J.sub ?_ ((((((Sub.base _).upd e0).upd e1).upd e10).upd e11).upd e12)
                  clear e0 e1 e10 e11 e12
                  exact sh_sound _ _ _ _ (Eq.mp (by kernel_rfl) h)
      · intro σ w h
        refine J.sub ?_ (Sub.base _)
        exact sh_sound _ _ _ _ (Eq.mp (by kernel_rfl) h)

/-! ### hayloft/num.Open: function 20 -/
abbrev num_Open.F (q0A : Option Addr) (q0n : Nat) (q0c : Nat) (K : Value → World → Prop) (w : World) : Prop :=
  (0 ≤ ((q0n : Nat) : Int) ∧ ((q0n : Nat) : Int) ≤ ((q0n : Nat) : Int) ∧ (1 : Int) * ((q0n : Nat) : Int) ≤ 281474976710656 ∧ ((q0n : Nat) : Int) ≤ 9223372036854775807) ∧ wlet (w.alloc (.cells (madeCells #[.int .u8 0] (((q0n : Nat) : Int).toNat * 1)) 5)) fun w1 => SemJ Try.prog (Builtin.copy_ #[22, 22] 3 #[.slice (some ⟨w.heap.size, 0, none⟩) (((q0n : Nat) : Int).toNat) (((q0n : Nat) : Int).toNat), .slice q0A q0n q0c]) (fun v2 w3 => ∃ (n4 : Int), v2 = .int .i64 n4 ∧ wlet (w3.alloc (.cells #[.slice (some ⟨w.heap.size, 0, none⟩) (((q0n : Nat) : Int).toNat) (((q0n : Nat) : Int).toNat), .int .i64 0] 60)) fun w5 => K (.pointer (some (⟨w3.heap.size, 0, none⟩))) w5) w1
theorem num_Open.ok {q0A : Option Addr} {q0n : Nat} {q0c : Nat} {K : Value → World → Prop} {w : World} (h : num_Open.F q0A q0n q0c K w) :
    CallsE Try.prog 20 #[.slice q0A q0n q0c] w K := by
  refine calls_of_J (n := 13) (rs := [.tmp 2]) Try.func20 rfl rfl rfl rfl ?_
  exact sh_sound _ _ _ _ (Eq.mp (by kernel_rfl) h)

/-! ### hayloft/reloc.Read: function 21 -/
abbrev reloc_Read.p8 (L0 : Option Addr → Option Addr → Nat → Nat → Int → Int → World → Prop) (K : Value → World → Prop) (x0 : Option Addr) (x3A : Option Addr) (x3n : Nat) (x3c : Nat) (x4 : Int) (x5 : Int) (w : World) : Prop :=
  L0 x0 x3A x3n x3c x4 (IntKind.wrap .u64 (x5 - (1 : Int))) w
abbrev reloc_Read.p7 (L0 : Option Addr → Option Addr → Nat → Nat → Int → Int → World → Prop) (K : Value → World → Prop) (x0 : Option Addr) (x3A : Option Addr) (x3n : Nat) (x3c : Nat) (x5 : Int) (x6 : Int) (w : World) : Prop :=
  wlet (w.alloc (.cells #[.int .i64 x6] 3)) fun w12 => SemJ Try.prog (Builtin.append_ #[23, 23] 23 #[.slice x3A x3n x3c, .slice (some ⟨w.heap.size, 0, none⟩) 1 1]) (fun v13 w14 => ∃ (A15 : Option Addr) (m16 : Nat) (c17 : Nat), v13 = .slice A15 m16 c17 ∧ reloc_Read.p8 L0 K x0 A15 m16 c17 (IntKind.wrap .i64 (x6 + (8 : Int))) x5 w14) w12
abbrev reloc_Read.p6 (L0 : Option Addr → Option Addr → Nat → Nat → Int → Int → World → Prop) (K : Value → World → Prop) (x0 : Option Addr) (x3A : Option Addr) (x3n : Nat) (x3c : Nat) (x5 : Int) (x6 : Int) (w : World) : Prop :=
  condP (decide ((65527 : Int) < x6)) (CallsE Try.prog 34 #[.pointer x0, .int .i64 4] w (fun v10 w11 => v10 = .tuple #[] ∧ reloc_Read.p7 L0 K x0 x3A x3n x3c x5 x6 w11)) (reloc_Read.p7 L0 K x0 x3A x3n x3c x5 x6 w)
abbrev reloc_Read.p5 (L0 : Option Addr → Option Addr → Nat → Nat → Int → Int → World → Prop) (K : Value → World → Prop) (x0 : Option Addr) (x3A : Option Addr) (x3n : Nat) (x3c : Nat) (x4 : Int) (x5 : Int) (w : World) : Prop :=
  CallsE Try.prog 33 #[.pointer x0, .int .u64 8192] w (fun v7 w8 => ∃ (n9 : Int), v7 = .int .u64 n9 ∧ reloc_Read.p6 L0 K x0 x3A x3n x3c x5 (IntKind.wrap .i64 (x4 + (IntKind.wrap .i64 ((8 : Int) * (IntKind.wrap .i64 n9))))) w8)
abbrev reloc_Read.p9 (K : Value → World → Prop) (x0 : Option Addr) (x3A : Option Addr) (x3n : Nat) (x3c : Nat) (w : World) : Prop :=
  CallsE Try.prog 22 #[.pointer x0] w (fun v18 w19 => ∃ (n20 : Int), v18 = .int .i64 n20 ∧ condP (n20 != (0 : Int)) (K (.slice none 0 0) w19) (K (.slice x3A x3n x3c) w19))
abbrev reloc_Read.p4 (L0 : Option Addr → Option Addr → Nat → Nat → Int → Int → World → Prop) (K : Value → World → Prop) (x0 : Option Addr) (x3A : Option Addr) (x3n : Nat) (x3c : Nat) (x4 : Int) (x5 : Int) (x15 : Bool) (w : World) : Prop :=
  condP x15 (reloc_Read.p5 L0 K x0 x3A x3n x3c x4 x5 w) (reloc_Read.p9 K x0 x3A x3n x3c w)
abbrev reloc_Read.b0 (L0 : Option Addr → Option Addr → Nat → Nat → Int → Int → World → Prop) (K : Value → World → Prop) (x0 : Option Addr) (x3A : Option Addr) (x3n : Nat) (x3c : Nat) (x4 : Int) (x5 : Int) (w : World) : Prop :=
  condP (decide ((0 : Int) < x5)) (CallsE Try.prog 22 #[.pointer x0] w (fun v4 w5 => ∃ (n6 : Int), v4 = .int .i64 n6 ∧ reloc_Read.p4 L0 K x0 x3A x3n x3c x4 x5 (n6 == (0 : Int)) w5)) (reloc_Read.p4 L0 K x0 x3A x3n x3c x4 x5 false w)
def reloc_Read.l0 (K : Value → World → Prop) (k : Nat) : Option Addr → Option Addr → Nat → Nat → Int → Int → World → Prop :=
  Nat.rec (motive := fun _ => Option Addr → Option Addr → Nat → Nat → Int → Int → World → Prop) (fun _ _ _ _ _ _ _ => False) (fun _ ih => reloc_Read.b0 ih K) k
theorem reloc_Read.l0_succ (K : Value → World → Prop) (k : Nat) (x0 : Option Addr) (x3A : Option Addr) (x3n : Nat) (x3c : Nat) (x4 : Int) (x5 : Int) (w : World) : reloc_Read.l0 K (k + 1) x0 x3A x3n x3c x4 x5 w = reloc_Read.b0 (reloc_Read.l0 K k) K x0 x3A x3n x3c x4 x5 w := rfl
abbrev reloc_Read.p3 (K : Value → World → Prop) (x0 : Option Addr) (x3A : Option Addr) (x3n : Nat) (x3c : Nat) (x4 : Int) (x5 : Int) (w : World) : Prop :=
  ∃ k, reloc_Read.l0 K k x0 x3A x3n x3c x4 x5 w
abbrev reloc_Read.p2 (K : Value → World → Prop) (x0 : Option Addr) (x3A : Option Addr) (x3n : Nat) (x3c : Nat) (x4 : Int) (w : World) : Prop :=
  CallsE Try.prog 33 #[.pointer x0, .int .u64 8192] w (fun v1 w2 => ∃ (n3 : Int), v1 = .int .u64 n3 ∧ reloc_Read.p3 K x0 x3A x3n x3c x4 n3 w2)
abbrev reloc_Read.p1 (K : Value → World → Prop) (x0 : Option Addr) (x3A : Option Addr) (x3n : Nat) (x3c : Nat) (w : World) : Prop :=
  reloc_Read.p2 K x0 x3A x3n x3c 0 w
abbrev reloc_Read.p0 (K : Value → World → Prop) (x0 : Option Addr) (w : World) : Prop :=
  reloc_Read.p1 K x0 none 0 0 w
abbrev reloc_Read.F (q0 : Option Addr) (K : Value → World → Prop) (w : World) : Prop :=
  reloc_Read.p0 K q0 w
theorem reloc_Read.ok {q0 : Option Addr} {K : Value → World → Prop} {w : World} (h : reloc_Read.F q0 K w) :
    CallsE Try.prog 21 #[.pointer q0] w K := by
  refine calls_of_J (n := 38) (rs := [.tmp 2]) Try.func21 rfl rfl rfl rfl ?_
  refine J_seq (fun σ w => vP (σ 0) fun x0 => reloc_Read.p0 K x0 w) ?_ ?_
  ·
    exact sh_sound _ _ _ _ (Eq.mp (by kernel_rfl) h)
  · intro σ w h
    obtain ⟨x0, e0, h⟩ := vP_elim h
    refine J.sub ?_ ((Sub.base _).upd e0)
    clear e0
    refine J_seq (fun σ w => vP (σ 0) fun x0 => vS (σ 3) fun x3A x3n x3c => reloc_Read.p1 K x0 x3A x3n x3c w) ?_ ?_
    ·
      exact sh_sound _ _ _ _ (Eq.mp (by kernel_rfl) h)
    · intro σ w h
      obtain ⟨x0, e0, h⟩ := vP_elim h
      obtain ⟨x3A, x3n, x3c, e3, h⟩ := vS_elim h
      refine J.sub ?_ (((Sub.base _).upd e0).upd e3)
      clear e0 e3
      refine J_seq (fun σ w => vP (σ 0) fun x0 => vS (σ 3) fun x3A x3n x3c => vI .i64 (σ 4) fun x4 => reloc_Read.p2 K x0 x3A x3n x3c x4 w) ?_ ?_
      ·
        exact sh_sound _ _ _ _ (Eq.mp (by kernel_rfl) h)
      · intro σ w h
        obtain ⟨x0, e0, h⟩ := vP_elim h
        obtain ⟨x3A, x3n, x3c, e3, h⟩ := vS_elim h
        obtain ⟨x4, e4, h⟩ := vI_elim h
        refine J.sub ?_ ((((Sub.base _).upd e0).upd e3).upd e4)
        clear e0 e3 e4
        refine J_seq (fun σ w => vP (σ 0) fun x0 => vS (σ 3) fun x3A x3n x3c => reloc_Read.p9 K x0 x3A x3n x3c w) ?_ ?_
        ·
          refine J_seq (fun σ w => vP (σ 0) fun x0 => vS (σ 3) fun x3A x3n x3c => vI .i64 (σ 4) fun x4 => vI .u64 (σ 5) fun x5 => reloc_Read.p3 K x0 x3A x3n x3c x4 x5 w) ?_ ?_
          ·
            exact sh_sound _ _ _ _ (Eq.mp (by kernel_rfl) h)
          · intro σ w h
            obtain ⟨x0, e0, h⟩ := vP_elim h
            obtain ⟨x3A, x3n, x3c, e3, h⟩ := vS_elim h
            obtain ⟨x4, e4, h⟩ := vI_elim h
            obtain ⟨x5, e5, h⟩ := vI_elim h
            refine J.sub ?_ (((((Sub.base _).upd e0).upd e3).upd e4).upd e5)
            clear e0 e3 e4 e5
            refine J_block ?_
            refine J_loop (fun k σ w => vP (σ 0) fun x0 => vS (σ 3) fun x3A x3n x3c => vI .i64 (σ 4) fun x4 => vI .u64 (σ 5) fun x5 => reloc_Read.l0 K k x0 x3A x3n x3c x4 x5 w) (Eq.mp (by kernel_rfl) h) ?_ ?_
            · intro σ w h
              obtain ⟨x0, e0, h⟩ := vP_elim h
              obtain ⟨x3A, x3n, x3c, e3, h⟩ := vS_elim h
              obtain ⟨x4, e4, h⟩ := vI_elim h
              obtain ⟨x5, e5, h⟩ := vI_elim h
              exact h
            · intro k0 σ w h
              obtain ⟨x0, e0, h⟩ := vP_elim h
              obtain ⟨x3A, x3n, x3c, e3, h⟩ := vS_elim h
              obtain ⟨x4, e4, h⟩ := vI_elim h
              obtain ⟨x5, e5, h⟩ := vI_elim h
              refine J.sub ?_ (((((Sub.base _).upd e0).upd e3).upd e4).upd e5)
              clear e0 e3 e4 e5
              refine J_seq (fun σ w => vP (σ 0) fun x0 => vS (σ 3) fun x3A x3n x3c => vI .i64 (σ 4) fun x4 => vI .u64 (σ 5) fun x5 => reloc_Read.p5 (reloc_Read.l0 K k0) K x0 x3A x3n x3c x4 x5 w) ?_ ?_
              ·
                refine J_seq (fun σ w => vP (σ 0) fun x0 => vS (σ 3) fun x3A x3n x3c => vI .i64 (σ 4) fun x4 => vI .u64 (σ 5) fun x5 => vB (σ 15) fun x15 => reloc_Read.p4 (reloc_Read.l0 K k0) K x0 x3A x3n x3c x4 x5 x15 w) ?_ ?_
                ·
                  exact sh_sound _ _ _ _ (Eq.mp (by kernel_rfl) h)
                · intro σ w h
                  obtain ⟨x0, e0, h⟩ := vP_elim h
                  obtain ⟨x3A, x3n, x3c, e3, h⟩ := vS_elim h
                  obtain ⟨x4, e4, h⟩ := vI_elim h
                  obtain ⟨x5, e5, h⟩ := vI_elim h
                  obtain ⟨x15, e15, h⟩ := vB_elim h
                  refine J.sub ?_ ((((((Sub.base _).upd e0).upd e3).upd e4).upd e5).upd e15)
                  clear e0 e3 e4 e5 e15
                  exact sh_sound _ _ _ _ (Eq.mp (by kernel_rfl) h)
              · intro σ w h
                obtain ⟨x0, e0, h⟩ := vP_elim h
                obtain ⟨x3A, x3n, x3c, e3, h⟩ := vS_elim h
                obtain ⟨x4, e4, h⟩ := vI_elim h
                obtain ⟨x5, e5, h⟩ := vI_elim h
                refine J.sub ?_ (((((Sub.base _).upd e0).upd e3).upd e4).upd e5)
                clear e0 e3 e4 e5
                refine J_seq (fun σ w => vP (σ 0) fun x0 => vS (σ 3) fun x3A x3n x3c => vI .i64 (σ 4) fun x4 => vI .u64 (σ 5) fun x5 => reloc_Read.p8 (reloc_Read.l0 K k0) K x0 x3A x3n x3c x4 x5 w) ?_ ?_
                ·
                  refine J_block ?_
                  refine J_seq (fun σ w => vP (σ 0) fun x0 => vS (σ 3) fun x3A x3n x3c => vI .u64 (σ 5) fun x5 => vI .i64 (σ 6) fun x6 => reloc_Read.p6 (reloc_Read.l0 K k0) K x0 x3A x3n x3c x5 x6 w) ?_ ?_
                  ·
                    exact sh_sound _ _ _ _ (Eq.mp (by kernel_rfl) h)
                  · intro σ w h
                    obtain ⟨x0, e0, h⟩ := vP_elim h
                    obtain ⟨x3A, x3n, x3c, e3, h⟩ := vS_elim h
                    obtain ⟨x5, e5, h⟩ := vI_elim h
                    obtain ⟨x6, e6, h⟩ := vI_elim h
                    refine J.sub ?_ (((((Sub.base _).upd e0).upd e3).upd e5).upd e6)
                    clear e0 e3 e5 e6
                    refine J_seq (fun σ w => vP (σ 0) fun x0 => vS (σ 3) fun x3A x3n x3c => vI .u64 (σ 5) fun x5 => vI .i64 (σ 6) fun x6 => reloc_Read.p7 (reloc_Read.l0 K k0) K x0 x3A x3n x3c x5 x6 w) ?_ ?_
                    ·
                      exact sh_sound _ _ _ _ (Eq.mp (by kernel_rfl) h)
                    · intro σ w h
                      obtain ⟨x0, e0, h⟩ := vP_elim h
                      obtain ⟨x3A, x3n, x3c, e3, h⟩ := vS_elim h
                      obtain ⟨x5, e5, h⟩ := vI_elim h
                      obtain ⟨x6, e6, h⟩ := vI_elim h
                      refine J.sub ?_ (((((Sub.base _).upd e0).upd e3).upd e5).upd e6)
                      clear e0 e3 e5 e6
                      exact sh_sound _ _ _ _ (Eq.mp (by kernel_rfl) h)
                · intro σ w h
                  obtain ⟨x0, e0, h⟩ := vP_elim h
                  obtain ⟨x3A, x3n, x3c, e3, h⟩ := vS_elim h
                  obtain ⟨x4, e4, h⟩ := vI_elim h
                  obtain ⟨x5, e5, h⟩ := vI_elim h
                  refine J.sub ?_ (((((Sub.base _).upd e0).upd e3).upd e4).upd e5)
                  clear e0 e3 e4 e5
                  exact sh_sound _ _ _ _ (Eq.mp (by kernel_rfl) h)
        · intro σ w h
          obtain ⟨x0, e0, h⟩ := vP_elim h
          obtain ⟨x3A, x3n, x3c, e3, h⟩ := vS_elim h
          refine J.sub ?_ (((Sub.base _).upd e0).upd e3)
          clear e0 e3
          exact sh_sound _ _ _ _ (Eq.mp (by kernel_rfl) h)

/-! ### (*hayloft/num.Reader).Err: function 22 -/
abbrev num_Reader_Err.F (q0 : Option Addr) (K : Value → World → Prop) (w : World) : Prop :=
  condP q0.isNone (K (.int .i64 1) w) (∃ (a1 : Addr), q0 = some a1 ∧ ∃ (n2 : Int), w.cell? (a1.add 1) = some (.int .i64 n2) ∧ K (.int .i64 n2) w)
theorem num_Reader_Err.ok {q0 : Option Addr} {K : Value → World → Prop} {w : World} (h : num_Reader_Err.F q0 K w) :
    CallsE Try.prog 22 #[.pointer q0] w K := by
  refine calls_of_J (n := 9) (rs := [.tmp 2]) Try.func22 rfl rfl rfl rfl ?_
  exact sh_sound _ _ _ _ (Eq.mp (by kernel_rfl) h)

/-! ### (*hayloft/num.Reader).Left: function 23 -/
abbrev num_Reader_Left.p2 (K : Value → World → Prop) (x0 : Option Addr) (w : World) : Prop :=
  ∃ (a1 : Addr), x0 = some a1 ∧ ∃ (A2 : Option Addr) (m3 : Nat) (c4 : Nat), w.cell? a1 = some (.slice A2 m3 c4) ∧ K (.int .i64 ((m3 : Nat) : Int)) w
abbrev num_Reader_Left.p1 (K : Value → World → Prop) (x0 : Option Addr) (x11 : Bool) (w : World) : Prop :=
  condP x11 (K (.int .i64 0) w) (num_Reader_Left.p2 K x0 w)
abbrev num_Reader_Left.p0 (K : Value → World → Prop) (x0 : Option Addr) (w : World) : Prop :=
  condP x0.isNone (num_Reader_Left.p1 K x0 true w) (∃ (a5 : Addr), x0 = some a5 ∧ ∃ (n6 : Int), w.cell? (a5.add 1) = some (.int .i64 n6) ∧ num_Reader_Left.p1 K x0 (n6 != (0 : Int)) w)
abbrev num_Reader_Left.F (q0 : Option Addr) (K : Value → World → Prop) (w : World) : Prop :=
  num_Reader_Left.p0 K q0 w
theorem num_Reader_Left.ok {q0 : Option Addr} {K : Value → World → Prop} {w : World} (h : num_Reader_Left.F q0 K w) :
    CallsE Try.prog 23 #[.pointer q0] w K := by
  refine calls_of_J (n := 17) (rs := [.tmp 2]) Try.func23 rfl rfl rfl rfl ?_
  refine J_seq (fun σ w => vP (σ 0) fun x0 => num_Reader_Left.p0 K x0 w) ?_ ?_
  ·
    exact sh_sound _ _ _ _ (Eq.mp (by kernel_rfl) h)
  · intro σ w h
    obtain ⟨x0, e0, h⟩ := vP_elim h
    refine J.sub ?_ ((Sub.base _).upd e0)
    clear e0
    refine J_seq (fun σ w => vP (σ 0) fun x0 => num_Reader_Left.p2 K x0 w) ?_ ?_
    ·
      refine J_seq (fun σ w => vP (σ 0) fun x0 => vB (σ 11) fun x11 => num_Reader_Left.p1 K x0 x11 w) ?_ ?_
      ·
        exact sh_sound _ _ _ _ (Eq.mp (by kernel_rfl) h)
      · intro σ w h
        obtain ⟨x0, e0, h⟩ := vP_elim h
        obtain ⟨x11, e11, h⟩ := vB_elim h
        refine J.sub ?_ (((Sub.base _).upd e0).upd e11)
        clear e0 e11
        exact sh_sound _ _ _ _ (Eq.mp (by kernel_rfl) h)
    · intro σ w h
      obtain ⟨x0, e0, h⟩ := vP_elim h
      refine J.sub ?_ ((Sub.base _).upd e0)
      clear e0
      exact sh_sound _ _ _ _ (Eq.mp (by kernel_rfl) h)

/-! ### hayloft/hayloftref16.Read: function 24 -/
abbrev ref16_Read.p10 (L0 : Option Addr → Int → Int → Option Addr → Nat → Nat → Int → World → Prop) (K : Value → World → Prop) (x0 : Option Addr) (x3 : Int) (x4 : Int) (x5A : Option Addr) (x5n : Nat) (x5c : Nat) (x6 : Int) (w : World) : Prop :=
  L0 x0 x3 x4 x5A x5n x5c (IntKind.wrap .i64 (x6 + (1 : Int))) w
abbrev ref16_Read.p9 (L0 : Option Addr → Int → Int → Option Addr → Nat → Nat → Int → World → Prop) (K : Value → World → Prop) (x0 : Option Addr) (x3 : Int) (x5A : Option Addr) (x5n : Nat) (x5c : Nat) (x6 : Int) (x7 : Int) (w : World) : Prop :=
  wlet (w.alloc (.cells #[.int .i64 (IntKind.wrap .i64 ((8 : Int) * x7))] 3)) fun w13 => SemJ Try.prog (Builtin.append_ #[23, 23] 23 #[.slice x5A x5n x5c, .slice (some ⟨w.heap.size, 0, none⟩) 1 1]) (fun v14 w15 => ∃ (A16 : Option Addr) (m17 : Nat) (c18 : Nat), v14 = .slice A16 m17 c18 ∧ ref16_Read.p10 L0 K x0 x3 (IntKind.wrap .i64 (x7 + (1 : Int))) A16 m17 c18 x6 w15) w13
abbrev ref16_Read.p8 (L0 : Option Addr → Int → Int → Option Addr → Nat → Nat → Int → World → Prop) (K : Value → World → Prop) (x0 : Option Addr) (x3 : Int) (x5A : Option Addr) (x5n : Nat) (x5c : Nat) (x6 : Int) (x7 : Int) (x37 : Bool) (w : World) : Prop :=
  condP x37 (CallsE Try.prog 36 #[.pointer x0, .int .i64 4] w (fun v11 w12 => v11 = .tuple #[] ∧ ref16_Read.p9 L0 K x0 x3 x5A x5n x5c x6 x7 w12)) (ref16_Read.p9 L0 K x0 x3 x5A x5n x5c x6 x7 w)
abbrev ref16_Read.p7 (L0 : Option Addr → Int → Int → Option Addr → Nat → Nat → Int → World → Prop) (K : Value → World → Prop) (x0 : Option Addr) (x3 : Int) (x5A : Option Addr) (x5n : Nat) (x5c : Nat) (x6 : Int) (x7 : Int) (w : World) : Prop :=
  ∃ (a9 : Addr), x0 = some a9 ∧ ∃ (n10 : Int), w.cell? (a9.add 1) = some (.int .i64 n10) ∧ condP (n10 == (0 : Int)) (ref16_Read.p8 L0 K x0 x3 x5A x5n x5c x6 x7 (decide ((65527 : Int) < (IntKind.wrap .i64 ((8 : Int) * x7)))) w) (ref16_Read.p8 L0 K x0 x3 x5A x5n x5c x6 x7 false w)
abbrev ref16_Read.p6 (L0 : Option Addr → Int → Int → Option Addr → Nat → Nat → Int → World → Prop) (K : Value → World → Prop) (x0 : Option Addr) (x3 : Int) (x4 : Int) (x5A : Option Addr) (x5n : Nat) (x5c : Nat) (x6 : Int) (w : World) : Prop :=
  CallsE Try.prog 35 #[.pointer x0, .int .u64 8192] w (fun v6 w7 => ∃ (n8 : Int), v6 = .int .u64 n8 ∧ ref16_Read.p7 L0 K x0 x3 x5A x5n x5c x6 (IntKind.wrap .i64 (x4 + (IntKind.wrap .i64 n8))) w7)
abbrev ref16_Read.p11 (K : Value → World → Prop) (x0 : Option Addr) (x5A : Option Addr) (x5n : Nat) (x5c : Nat) (w : World) : Prop :=
  ∃ (a19 : Addr), x0 = some a19 ∧ ∃ (n20 : Int), w.cell? (a19.add 1) = some (.int .i64 n20) ∧ condP (n20 != (0 : Int)) (K (.slice none 0 0) w) (K (.slice x5A x5n x5c) w)
abbrev ref16_Read.p5 (L0 : Option Addr → Int → Int → Option Addr → Nat → Nat → Int → World → Prop) (K : Value → World → Prop) (x0 : Option Addr) (x3 : Int) (x4 : Int) (x5A : Option Addr) (x5n : Nat) (x5c : Nat) (x6 : Int) (x20 : Bool) (w : World) : Prop :=
  condP x20 (ref16_Read.p6 L0 K x0 x3 x4 x5A x5n x5c x6 w) (ref16_Read.p11 K x0 x5A x5n x5c w)
abbrev ref16_Read.b0 (L0 : Option Addr → Int → Int → Option Addr → Nat → Nat → Int → World → Prop) (K : Value → World → Prop) (x0 : Option Addr) (x3 : Int) (x4 : Int) (x5A : Option Addr) (x5n : Nat) (x5c : Nat) (x6 : Int) (w : World) : Prop :=
  condP (decide (x6 < x3)) (∃ (a4 : Addr), x0 = some a4 ∧ ∃ (n5 : Int), w.cell? (a4.add 1) = some (.int .i64 n5) ∧ ref16_Read.p5 L0 K x0 x3 x4 x5A x5n x5c x6 (n5 == (0 : Int)) w) (ref16_Read.p5 L0 K x0 x3 x4 x5A x5n x5c x6 false w)
def ref16_Read.l0 (K : Value → World → Prop) (k : Nat) : Option Addr → Int → Int → Option Addr → Nat → Nat → Int → World → Prop :=
  Nat.rec (motive := fun _ => Option Addr → Int → Int → Option Addr → Nat → Nat → Int → World → Prop) (fun _ _ _ _ _ _ _ _ => False) (fun _ ih => ref16_Read.b0 ih K) k
theorem ref16_Read.l0_succ (K : Value → World → Prop) (k : Nat) (x0 : Option Addr) (x3 : Int) (x4 : Int) (x5A : Option Addr) (x5n : Nat) (x5c : Nat) (x6 : Int) (w : World) : ref16_Read.l0 K (k + 1) x0 x3 x4 x5A x5n x5c x6 w = ref16_Read.b0 (ref16_Read.l0 K k) K x0 x3 x4 x5A x5n x5c x6 w := rfl
abbrev ref16_Read.p4 (K : Value → World → Prop) (x0 : Option Addr) (x3 : Int) (x4 : Int) (x5A : Option Addr) (x5n : Nat) (x5c : Nat) (x6 : Int) (w : World) : Prop :=
  ∃ k, ref16_Read.l0 K k x0 x3 x4 x5A x5n x5c x6 w
abbrev ref16_Read.p3 (K : Value → World → Prop) (x0 : Option Addr) (x3 : Int) (x4 : Int) (x5A : Option Addr) (x5n : Nat) (x5c : Nat) (w : World) : Prop :=
  ref16_Read.p4 K x0 x3 x4 x5A x5n x5c 0 w
abbrev ref16_Read.p2 (K : Value → World → Prop) (x0 : Option Addr) (x3 : Int) (x4 : Int) (w : World) : Prop :=
  ref16_Read.p3 K x0 x3 x4 none 0 0 w
abbrev ref16_Read.p1 (K : Value → World → Prop) (x0 : Option Addr) (x3 : Int) (w : World) : Prop :=
  ref16_Read.p2 K x0 x3 0 w
abbrev ref16_Read.p0 (K : Value → World → Prop) (x0 : Option Addr) (w : World) : Prop :=
  CallsE Try.prog 35 #[.pointer x0, .int .u64 8192] w (fun v1 w2 => ∃ (n3 : Int), v1 = .int .u64 n3 ∧ ref16_Read.p1 K x0 (IntKind.wrap .i64 n3) w2)
abbrev ref16_Read.F (q0 : Option Addr) (K : Value → World → Prop) (w : World) : Prop :=
  ref16_Read.p0 K q0 w
theorem ref16_Read.ok {q0 : Option Addr} {K : Value → World → Prop} {w : World} (h : ref16_Read.F q0 K w) :
    CallsE Try.prog 24 #[.pointer q0] w K := by
  refine calls_of_J (n := 53) (rs := [.tmp 2]) Try.func24 rfl rfl rfl rfl ?_
  refine J_seq (fun σ w => vP (σ 0) fun x0 => ref16_Read.p0 K x0 w) ?_ ?_
  ·
    exact sh_sound _ _ _ _ (Eq.mp (by kernel_rfl) h)
  · intro σ w h
    obtain ⟨x0, e0, h⟩ := vP_elim h
    refine J.sub ?_ ((Sub.base _).upd e0)
    clear e0
    refine J_seq (fun σ w => vP (σ 0) fun x0 => vI .i64 (σ 3) fun x3 => ref16_Read.p1 K x0 x3 w) ?_ ?_
    ·
      exact sh_sound _ _ _ _ (Eq.mp (by kernel_rfl) h)
    · intro σ w h
      obtain ⟨x0, e0, h⟩ := vP_elim h
      obtain ⟨x3, e3, h⟩ := vI_elim h
      refine J.sub ?_ (((Sub.base _).upd e0).upd e3)
      clear e0 e3
      refine J_seq (fun σ w => vP (σ 0) fun x0 => vI .i64 (σ 3) fun x3 => vI .i64 (σ 4) fun x4 => ref16_Read.p2 K x0 x3 x4 w) ?_ ?_
      ·
        exact sh_sound _ _ _ _ (Eq.mp (by kernel_rfl) h)
      · intro σ w h
        obtain ⟨x0, e0, h⟩ := vP_elim h
        obtain ⟨x3, e3, h⟩ := vI_elim h
        obtain ⟨x4, e4, h⟩ := vI_elim h
        refine J.sub ?_ ((((Sub.base _).upd e0).upd e3).upd e4)
        clear e0 e3 e4
        refine J_seq (fun σ w => vP (σ 0) fun x0 => vI .i64 (σ 3) fun x3 => vI .i64 (σ 4) fun x4 => vS (σ 5) fun x5A x5n x5c => ref16_Read.p3 K x0 x3 x4 x5A x5n x5c w) ?_ ?_
        ·
          exact sh_sound _ _ _ _ (Eq.mp (by kernel_rfl) h)
        · intro σ w h
          obtain ⟨x0, e0, h⟩ := vP_elim h
          obtain ⟨x3, e3, h⟩ := vI_elim h
          obtain ⟨x4, e4, h⟩ := vI_elim h
          obtain ⟨x5A, x5n, x5c, e5, h⟩ := vS_elim h
          refine J.sub ?_ (((((Sub.base _).upd e0).upd e3).upd e4).upd e5)
          clear e0 e3 e4 e5
          refine J_seq (fun σ w => vP (σ 0) fun x0 => vS (σ 5) fun x5A x5n x5c => ref16_Read.p11 K x0 x5A x5n x5c w) ?_ ?_
          ·
            refine J_seq (fun σ w => vP (σ 0) fun x0 => vI .i64 (σ 3) fun x3 => vI .i64 (σ 4) fun x4 => vS (σ 5) fun x5A x5n x5c => vI .i64 (σ 6) fun x6 => ref16_Read.p4 K x0 x3 x4 x5A x5n x5c x6 w) ?_ ?_
            ·
              exact sh_sound _ _ _ _ (Eq.mp (by kernel_rfl) h)
            · intro σ w h
              obtain ⟨x0, e0, h⟩ := vP_elim h
              obtain ⟨x3, e3, h⟩ := vI_elim h
              obtain ⟨x4, e4, h⟩ := vI_elim h
              obtain ⟨x5A, x5n, x5c, e5, h⟩ := vS_elim h
              obtain ⟨x6, e6, h⟩ := vI_elim h
              refine J.sub ?_ ((((((Sub.base _).upd e0).upd e3).upd e4).upd e5).upd e6)
              clear e0 e3 e4 e5 e6
              refine J_block ?_
              refine J_loop (fun k σ w => vP (σ 0) fun x0 => vI .i64 (σ 3) fun x3 => vI .i64 (σ 4) fun x4 => vS (σ 5) fun x5A x5n x5c => vI .i64 (σ 6) fun x6 => ref16_Read.l0 K k x0 x3 x4 x5A x5n x5c x6 w) (Eq.mp (by kernel_rfl) h) ?_ ?_
              · intro σ w h
                obtain ⟨x0, e0, h⟩ := vP_elim h
                obtain ⟨x3, e3, h⟩ := vI_elim h
                obtain ⟨x4, e4, h⟩ := vI_elim h
                obtain ⟨x5A, x5n, x5c, e5, h⟩ := vS_elim h
                obtain ⟨x6, e6, h⟩ := vI_elim h
                exact h
              · intro k0 σ w h
                obtain ⟨x0, e0, h⟩ := vP_elim h
                obtain ⟨x3, e3, h⟩ := vI_elim h
                obtain ⟨x4, e4, h⟩ := vI_elim h
                obtain ⟨x5A, x5n, x5c, e5, h⟩ := vS_elim h
                obtain ⟨x6, e6, h⟩ := vI_elim h
                refine J.sub ?_ ((((((Sub.base _).upd e0).upd e3).upd e4).upd e5).upd e6)
                clear e0 e3 e4 e5 e6
                refine J_seq (fun σ w => vP (σ 0) fun x0 => vI .i64 (σ 3) fun x3 => vI .i64 (σ 4) fun x4 => vS (σ 5) fun x5A x5n x5c => vI .i64 (σ 6) fun x6 => ref16_Read.p6 (ref16_Read.l0 K k0) K x0 x3 x4 x5A x5n x5c x6 w) ?_ ?_
                ·
                  refine J_seq (fun σ w => vP (σ 0) fun x0 => vI .i64 (σ 3) fun x3 => vI .i64 (σ 4) fun x4 => vS (σ 5) fun x5A x5n x5c => vI .i64 (σ 6) fun x6 => vB (σ 20) fun x20 => ref16_Read.p5 (ref16_Read.l0 K k0) K x0 x3 x4 x5A x5n x5c x6 x20 w) ?_ ?_
                  ·
                    exact sh_sound _ _ _ _ (Eq.mp (by kernel_rfl) h)
                  · intro σ w h
                    obtain ⟨x0, e0, h⟩ := vP_elim h
                    obtain ⟨x3, e3, h⟩ := vI_elim h
                    obtain ⟨x4, e4, h⟩ := vI_elim h
                    obtain ⟨x5A, x5n, x5c, e5, h⟩ := vS_elim h
                    obtain ⟨x6, e6, h⟩ := vI_elim h
                    obtain ⟨x20, e20, h⟩ := vB_elim h
                    refine J.sub ?_ (((((((Sub.base _).upd e0).upd e3).upd e4).upd e5).upd e6).upd e20)
                    clear e0 e3 e4 e5 e6 e20
                    exact sh_sound _ _ _ _ (Eq.mp (by kernel_rfl) h)
                · intro σ w h
                  obtain ⟨x0, e0, h⟩ := vP_elim h
                  obtain ⟨x3, e3, h⟩ := vI_elim h
                  obtain ⟨x4, e4, h⟩ := vI_elim h
                  obtain ⟨x5A, x5n, x5c, e5, h⟩ := vS_elim h
                  obtain ⟨x6, e6, h⟩ := vI_elim h
                  refine J.sub ?_ ((((((Sub.base _).upd e0).upd e3).upd e4).upd e5).upd e6)
                  clear e0 e3 e4 e5 e6
                  refine J_seq (fun σ w => vP (σ 0) fun x0 => vI .i64 (σ 3) fun x3 => vI .i64 (σ 4) fun x4 => vS (σ 5) fun x5A x5n x5c => vI .i64 (σ 6) fun x6 => ref16_Read.p10 (ref16_Read.l0 K k0) K x0 x3 x4 x5A x5n x5c x6 w) ?_ ?_
                  ·
                    refine J_block ?_
                    refine J_seq (fun σ w => vP (σ 0) fun x0 => vI .i64 (σ 3) fun x3 => vS (σ 5) fun x5A x5n x5c => vI .i64 (σ 6) fun x6 => vI .i64 (σ 7) fun x7 => ref16_Read.p7 (ref16_Read.l0 K k0) K x0 x3 x5A x5n x5c x6 x7 w) ?_ ?_
                    ·
                      exact sh_sound _ _ _ _ (Eq.mp (by kernel_rfl) h)
                    · intro σ w h
                      obtain ⟨x0, e0, h⟩ := vP_elim h
                      obtain ⟨x3, e3, h⟩ := vI_elim h
                      obtain ⟨x5A, x5n, x5c, e5, h⟩ := vS_elim h
                      obtain ⟨x6, e6, h⟩ := vI_elim h
                      obtain ⟨x7, e7, h⟩ := vI_elim h
                      refine J.sub ?_ ((((((Sub.base _).upd e0).upd e3).upd e5).upd e6).upd e7)
                      clear e0 e3 e5 e6 e7
                      refine J_seq (fun σ w => vP (σ 0) fun x0 => vI .i64 (σ 3) fun x3 => vS (σ 5) fun x5A x5n x5c => vI .i64 (σ 6) fun x6 => vI .i64 (σ 7) fun x7 => ref16_Read.p9 (ref16_Read.l0 K k0) K x0 x3 x5A x5n x5c x6 x7 w) ?_ ?_
                      ·
                        refine J_seq (fun σ w => vP (σ 0) fun x0 => vI .i64 (σ 3) fun x3 => vS (σ 5) fun x5A x5n x5c => vI .i64 (σ 6) fun x6 => vI .i64 (σ 7) fun x7 => vB (σ 37) fun x37 => ref16_Read.p8 (ref16_Read.l0 K k0) K x0 x3 x5A x5n x5c x6 x7 x37 w) ?_ ?_
                        ·
                          exact sh_sound _ _ _ _ (Eq.mp (by kernel_rfl) h)
                        · intro σ w h
                          obtain ⟨x0, e0, h⟩ := vP_elim h
                          obtain ⟨x3, e3, h⟩ := vI_elim h
                          obtain ⟨x5A, x5n, x5c, e5, h⟩ := vS_elim h
                          obtain ⟨x6, e6, h⟩ := vI_elim h
                          obtain ⟨x7, e7, h⟩ := vI_elim h
                          obtain ⟨x37, e37, h⟩ := vB_elim h
                          refine J.sub ?_ (((((((Sub.base _).upd e0).upd e3).upd e5).upd e6).upd e7).upd e37)
                          clear e0 e3 e5 e6 e7 e37
                          exact sh_sound _ _ _ _ (Eq.mp (by kernel_rfl) h)
                      · intro σ w h
                        obtain ⟨x0, e0, h⟩ := vP_elim h
                        obtain ⟨x3, e3, h⟩ := vI_elim h
                        obtain ⟨x5A, x5n, x5c, e5, h⟩ := vS_elim h
                        obtain ⟨x6, e6, h⟩ := vI_elim h
                        obtain ⟨x7, e7, h⟩ := vI_elim h
                        refine J.sub ?_ ((((((Sub.base _).upd e0).upd e3).upd e5).upd e6).upd e7)
                        clear e0 e3 e5 e6 e7
                        exact sh_sound _ _ _ _ (Eq.mp (by kernel_rfl) h)
                  · intro σ w h
                    obtain ⟨x0, e0, h⟩ := vP_elim h
                    obtain ⟨x3, e3, h⟩ := vI_elim h
                    obtain ⟨x4, e4, h⟩ := vI_elim h
                    obtain ⟨x5A, x5n, x5c, e5, h⟩ := vS_elim h
                    obtain ⟨x6, e6, h⟩ := vI_elim h
                    refine J.sub ?_ ((((((Sub.base _).upd e0).upd e3).upd e4).upd e5).upd e6)
                    clear e0 e3 e4 e5 e6
                    exact sh_sound _ _ _ _ (Eq.mp (by kernel_rfl) h)
          · intro σ w h
            obtain ⟨x0, e0, h⟩ := vP_elim h
            obtain ⟨x5A, x5n, x5c, e5, h⟩ := vS_elim h
            refine J.sub ?_ (((Sub.base _).upd e0).upd e5)
            clear e0 e5
            exact sh_sound _ _ _ _ (Eq.mp (by kernel_rfl) h)

/-! ### (*hayloft/hayloftref01.Reader).Rest: function 25 -/
abbrev ref01_Reader_Rest.F (q0 : Option Addr) (K : Value → World → Prop) (w : World) : Prop :=
  ∃ (a1 : Addr), q0 = some a1 ∧ ∃ (n2 : Int), w.cell? (a1.add 1) = some (.int .i64 n2) ∧ condP (n2 != (0 : Int)) (K (.int .i64 0) w) (∃ (a3 : Addr), q0 = some a3 ∧ ∃ (A4 : Option Addr) (m5 : Nat) (c6 : Nat), w.cell? a3 = some (.slice A4 m5 c6) ∧ K (.int .i64 ((m5 : Nat) : Int)) w)
theorem ref01_Reader_Rest.ok {q0 : Option Addr} {K : Value → World → Prop} {w : World} (h : ref01_Reader_Rest.F q0 K w) :
    CallsE Try.prog 25 #[.pointer q0] w K := by
  refine calls_of_J (n := 13) (rs := [.tmp 2]) Try.func25 rfl rfl rfl rfl ?_
  exact sh_sound _ _ _ _ (Eq.mp (by kernel_rfl) h)

end Go.Proofs.Ytfigojigigkdmaa.F
