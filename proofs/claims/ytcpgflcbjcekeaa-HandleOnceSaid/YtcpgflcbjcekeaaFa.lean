/-
  Printed by a program: for each Go function a proposition that says what it comes to, and the proof that the code comes to it. No condition beyond what each theorem states.
-/
import Derived.Test.YtcpgflcbjcekeaaProg
import Derived.Test.YtcpgflcbjcekeaaSh
set_option linter.unusedVariables false
set_option maxRecDepth 100000
namespace Go.Proofs.Ytcpgflcbjcekeaa.F
open Go Go.RowKit Go.Proofs.Ytcpgflcbjcekeaa Go.Proofs.Ytcpgflcbjcekeaa.Sh

noncomputable abbrev Pg : Program := Try.prog
abbrev law12_HandleOf.N : FuncId := 3
abbrev law12_HandleOnce.N : FuncId := 4
abbrev law12_HandleStale.N : FuncId := 5
abbrev law12_HandleForged.N : FuncId := 6
abbrev law12_HandlePlays.N : FuncId := 7
abbrev law12_HandleFrom.N : FuncId := 8
abbrev law12_HandleNil.N : FuncId := 9
abbrev law12_alive.N : FuncId := 10
abbrev handle_Of.N : FuncId := 11
abbrev ref12_Of.N : FuncId := 12
abbrev handle_From.N : FuncId := 13
abbrev handle_Table_Live.N : FuncId := 14
abbrev handle_Table_Drop.N : FuncId := 15
abbrev handle_Table_Full.N : FuncId := 16
abbrev handle_Table_Make.N : FuncId := 17
abbrev handle_New.N : FuncId := 18
abbrev handle_Table_Get.N : FuncId := 19
abbrev handle_Table_Put.N : FuncId := 20
abbrev ref12_From.N : FuncId := 21
abbrev law12_do.N : FuncId := 22
abbrev law12_same.N : FuncId := 23
abbrev ref12_Same.N : FuncId := 24
abbrev handle_Table_Rows.N : FuncId := 25
abbrev ref12_Table_Live.N : FuncId := 26
abbrev handle_right.N : FuncId := 27
abbrev handle_Table_row.N : FuncId := 28
abbrev handle_Table_next.N : FuncId := 29
abbrev ref12_Table_Make.N : FuncId := 30
abbrev ref12_Table_Get.N : FuncId := 31
abbrev ref12_Table_Put.N : FuncId := 32
abbrev ref12_Table_Drop.N : FuncId := 33
abbrev ref12_Table_Rows.N : FuncId := 34
abbrev ref12_Handles.N : FuncId := 35
abbrev ref12_Table_Full.N : FuncId := 36
abbrev ref12_Table_next.N : FuncId := 37
abbrev ref12_Table_Find.N : FuncId := 38
abbrev api_Errno_Error.N : FuncId := 54
abbrev Ty.int64 : TypeId := 2
abbrev Ty.int : TypeId := 3
abbrev Ty.bool : TypeId := 4
abbrev Ty.uint8 : TypeId := 5
abbrev Ty.abi_BoundsErrorCode : TypeId := 6
abbrev Ty.runtime_boundsError : TypeId := 8
abbrev Ty.string : TypeId := 9
abbrev Ty.runtime_errorString : TypeId := 10
abbrev Ty.runtime_plainError : TypeId := 11
abbrev Ty.uintptr : TypeId := 12
abbrev Ty.runtime_errorAddressString : TypeId := 14
abbrev Ty.p_runtime_TypeAssertionError : TypeId := 15
abbrev Ty.p_runtime_PanicNilError : TypeId := 16
abbrev Ty.p_abi_Type : TypeId := 17
abbrev Ty.maps_unhashableTypeError : TypeId := 19
abbrev Ty.int32 : TypeId := 21
abbrev Ty.a2_int : TypeId := 22
abbrev Ty.uint64 : TypeId := 24
abbrev Ty.api_Handle : TypeId := 25
abbrev Ty.sl_uint16 : TypeId := 28
abbrev Ty.sl_law12_Call : TypeId := 29
abbrev Ty.sl_api_Row : TypeId := 30
abbrev Ty.uint16 : TypeId := 31
abbrev Ty.api_Row : TypeId := 33
abbrev Ty.p_handle_Table : TypeId := 34
abbrev Ty.api_Errno : TypeId := 35
abbrev Ty.sl_api_Handle : TypeId := 38
abbrev Ty.law12_Call : TypeId := 40
abbrev Ty.uint : TypeId := 43
abbrev Ty.p_ref12_Table : TypeId := 52
abbrev Ty.p_sl_api_Handle : TypeId := 56
abbrev Ty.handle_Table : TypeId := 66
abbrev Ty.p_api_Row : TypeId := 67
abbrev Ty.ref12_Table : TypeId := 72
abbrev Ty.runtime_TypeAssertionError : TypeId := 82
abbrev Ty.a0_p_runtime_PanicNilError : TypeId := 83
abbrev Ty.runtime_PanicNilError : TypeId := 85
abbrev Ty.uint32 : TypeId := 86
abbrev Ty.abi_TFlag : TypeId := 87
abbrev Ty.abi_Kind : TypeId := 88
abbrev Ty.p_uint8 : TypeId := 90
abbrev Ty.abi_NameOff : TypeId := 91
abbrev Ty.abi_TypeOff : TypeId := 92
abbrev Ty.abi_Type : TypeId := 94
abbrev Ty.unsafe_Pointer : TypeId := 95

/-! ### hayloft/hayloftlaw12.HandleOf: function 3 -/
abbrev law12_HandleOf.p5 (K : Value → World → Prop) (x4 : Bool) (w : World) : Prop :=
  K (.bool x4) w
abbrev law12_HandleOf.p4 (K : Value → World → Prop) (x2 : Addr) (x3 : Addr) (x5 : Int) (x6 : Int) (w : World) : Prop :=
  condP (x5 == (0 : Int)) (law12_HandleOf.p5 K true w) (condP (x6 == (0 : Int)) (law12_HandleOf.p5 K true w) (∃ (n22 : Int), w.cell? x2 = some (.int .i64 n22) ∧ ∃ (n23 : Int), w.cell? (x2.add 1) = some (.int .i64 n23) ∧ ∃ (n24 : Int), w.cell? x3 = some (.int .i64 n24) ∧ ∃ (n25 : Int), w.cell? (x3.add 1) = some (.int .i64 n25) ∧ ∃ (b26 : Bool), aggEq Try.prog .eql 22 (.agg #[.int .i64 n22, .int .i64 n23]) (.agg #[.int .i64 n24, .int .i64 n25]) (.bool b26) ∧ law12_HandleOf.p5 K ((x5 == x6) == b26) w))
abbrev law12_HandleOf.p3 (K : Value → World → Prop) (x2 : Addr) (x3 : Addr) (x5 : Int) (x6 : Int) (x34 : Bool) (w : World) : Prop :=
  condP x34 (K (.bool false) w) (law12_HandleOf.p4 K x2 x3 x5 x6 w)
abbrev law12_HandleOf.p2 (K : Value → World → Prop) (x2 : Addr) (x3 : Addr) (x5 : Int) (x6 : Int) (w : World) : Prop :=
  (0 ≤ (0 : Int) ∧ (0 : Int) < ((2 : Nat) : Int)) ∧ ∃ (n17 : Int), w.cell? (x2.add ((0 : Int).toNat)) = some (.int .i64 n17) ∧ (0 ≤ (1 : Int) ∧ (1 : Int) < ((2 : Nat) : Int)) ∧ ∃ (n18 : Int), w.cell? (x2.add ((1 : Int).toNat)) = some (.int .i64 n18) ∧ CallsE Try.prog 12 #[.int .i64 n17, .int .i64 n18] w (fun v19 w20 => ∃ (n21 : Int), v19 = .int .u64 n21 ∧ condP (x5 != n21) (law12_HandleOf.p3 K x2 x3 x5 x6 true w20) ((0 ≤ (0 : Int) ∧ (0 : Int) < ((2 : Nat) : Int)) ∧ ∃ (n27 : Int), w20.cell? (x3.add ((0 : Int).toNat)) = some (.int .i64 n27) ∧ (0 ≤ (1 : Int) ∧ (1 : Int) < ((2 : Nat) : Int)) ∧ ∃ (n28 : Int), w20.cell? (x3.add ((1 : Int).toNat)) = some (.int .i64 n28) ∧ CallsE Try.prog 12 #[.int .i64 n27, .int .i64 n28] w20 (fun v29 w30 => ∃ (n31 : Int), v29 = .int .u64 n31 ∧ law12_HandleOf.p3 K x2 x3 x5 x6 (x6 != n31) w30)))
abbrev law12_HandleOf.p1 (K : Value → World → Prop) (x2 : Addr) (x3 : Addr) (w : World) : Prop :=
  ∃ (S6 : Array Obj → Prop), S6 w.heap ∧ (0 ≤ (0 : Int) ∧ (0 : Int) < ((2 : Nat) : Int)) ∧ (0 ≤ (1 : Int) ∧ (1 : Int) < ((2 : Nat) : Int)) ∧ (0 ≤ (0 : Int) ∧ (0 : Int) < ((2 : Nat) : Int)) ∧ (0 ≤ (1 : Int) ∧ (1 : Int) < ((2 : Nat) : Int)) ∧ ∃ (n7 : Int), (∀ w' : World, S6 w'.heap → w'.cell? (x2.add ((0 : Int).toNat)) = some (.int .i64 n7)) ∧ ∃ (n8 : Int), (∀ w' : World, S6 w'.heap → w'.cell? (x2.add ((1 : Int).toNat)) = some (.int .i64 n8)) ∧ ∃ (n9 : Int), (∀ w' : World, S6 w'.heap → w'.cell? (x3.add ((0 : Int).toNat)) = some (.int .i64 n9)) ∧ ∃ (n10 : Int), (∀ w' : World, S6 w'.heap → w'.cell? (x3.add ((1 : Int).toNat)) = some (.int .i64 n10)) ∧ CallsE Try.prog 11 #[.int .i64 n7, .int .i64 n8] w (fun v11 w12 => ∃ (n13 : Int), v11 = .int .u64 n13 ∧ S6 w12.heap ∧ CallsE Try.prog 11 #[.int .i64 n9, .int .i64 n10] w12 (fun v14 w15 => ∃ (n16 : Int), v14 = .int .u64 n16 ∧ S6 w15.heap ∧ law12_HandleOf.p2 K x2 x3 n13 n16 w15))
abbrev law12_HandleOf.p0 (K : Value → World → Prop) (x2 : Addr) (x3 : Addr) (w : World) : Prop :=
  CallsE Try.prog 10 #[] w (fun v3 w4 => ∃ (b5 : Bool), v3 = .bool b5 ∧ condP (!b5) (K (.bool false) w4) (law12_HandleOf.p1 K x2 x3 w4))
abbrev law12_HandleOf.F (q0_0 : Int) (q0_1 : Int) (q1_0 : Int) (q1_1 : Int) (K : Value → World → Prop) (w : World) : Prop :=
  wlet (w.alloc (.cells #[.int .i64 q0_0, .int .i64 q0_1] 22)) fun w1 => wlet (w1.alloc (.cells #[.int .i64 q1_0, .int .i64 q1_1] 22)) fun w2 => law12_HandleOf.p0 K (⟨w.heap.size, 0, none⟩) (⟨w1.heap.size, 0, none⟩) w2
theorem law12_HandleOf.ok {q0_0 : Int} {q0_1 : Int} {q1_0 : Int} {q1_1 : Int} {K : Value → World → Prop} {w : World} (h : law12_HandleOf.F q0_0 q0_1 q1_0 q1_1 K w) :
    CallsE Try.prog 3 #[.agg #[.int .i64 q0_0, .int .i64 q0_1], .agg #[.int .i64 q1_0, .int .i64 q1_1]] w K := by
  refine calls_of_J (n := 50) (rs := [.tmp 4]) Try.func3 rfl rfl rfl rfl ?_
  refine J_seq (fun σ w => vPa (σ 2) fun x2 => vPa (σ 3) fun x3 => law12_HandleOf.p0 K x2 x3 w) ?_ ?_
  ·
    exact sh_sound _ _ _ _ (Eq.mp (by kernel_rfl) h)
  · intro σ w h
    obtain ⟨x2, e2, h⟩ := vPa_elim h
    obtain ⟨x3, e3, h⟩ := vPa_elim h
    refine J.sub ?_ (((Sub.base _).upd e2).upd e3)
    clear e2 e3
    refine J_seq (fun σ w => vPa (σ 2) fun x2 => vPa (σ 3) fun x3 => law12_HandleOf.p1 K x2 x3 w) ?_ ?_
    ·
      exact sh_sound _ _ _ _ (Eq.mp (by kernel_rfl) h)
    · intro σ w h
      obtain ⟨x2, e2, h⟩ := vPa_elim h
      obtain ⟨x3, e3, h⟩ := vPa_elim h
      refine J.sub ?_ (((Sub.base _).upd e2).upd e3)
      clear e2 e3
      refine J_seq (fun σ w => vPa (σ 2) fun x2 => vPa (σ 3) fun x3 => vI .u64 (σ 5) fun x5 => vI .u64 (σ 6) fun x6 => law12_HandleOf.p2 K x2 x3 x5 x6 w) ?_ ?_
      ·
        exact J_held [] [(0, 0), (2, 0), (5, 0), (7, 0), (1, 1), (3, 1), (6, 1), (8, 1), (4, 2), (9, 2), (10, 0), (11, 0)] (by kernel_rfl) (Eq.mp (by kernel_rfl) h)
      · intro σ w h
        obtain ⟨x2, e2, h⟩ := vPa_elim h
        obtain ⟨x3, e3, h⟩ := vPa_elim h
        obtain ⟨x5, e5, h⟩ := vI_elim h
        obtain ⟨x6, e6, h⟩ := vI_elim h
        refine J.sub ?_ (((((Sub.base _).upd e2).upd e3).upd e5).upd e6)
        clear e2 e3 e5 e6
        refine J_seq (fun σ w => vPa (σ 2) fun x2 => vPa (σ 3) fun x3 => vI .u64 (σ 5) fun x5 => vI .u64 (σ 6) fun x6 => law12_HandleOf.p4 K x2 x3 x5 x6 w) ?_ ?_
        ·
          refine J_seq (fun σ w => vPa (σ 2) fun x2 => vPa (σ 3) fun x3 => vI .u64 (σ 5) fun x5 => vI .u64 (σ 6) fun x6 => vB (σ 34) fun x34 => law12_HandleOf.p3 K x2 x3 x5 x6 x34 w) ?_ ?_
          ·
            exact sh_sound _ _ _ _ (Eq.mp (by kernel_rfl) h)
          · intro σ w h
            obtain ⟨x2, e2, h⟩ := vPa_elim h
            obtain ⟨x3, e3, h⟩ := vPa_elim h
            obtain ⟨x5, e5, h⟩ := vI_elim h
            obtain ⟨x6, e6, h⟩ := vI_elim h
            obtain ⟨x34, e34, h⟩ := vB_elim h
            refine J.sub ?_ ((((((Sub.base _).upd e2).upd e3).upd e5).upd e6).upd e34)
            clear e2 e3 e5 e6 e34
            exact sh_sound _ _ _ _ (Eq.mp (by kernel_rfl) h)
        · intro σ w h
          obtain ⟨x2, e2, h⟩ := vPa_elim h
          obtain ⟨x3, e3, h⟩ := vPa_elim h
          obtain ⟨x5, e5, h⟩ := vI_elim h
          obtain ⟨x6, e6, h⟩ := vI_elim h
          refine J.sub ?_ (((((Sub.base _).upd e2).upd e3).upd e5).upd e6)
          clear e2 e3 e5 e6
          refine J_seq (fun σ w => vB (σ 4) fun x4 => law12_HandleOf.p5 K x4 w) ?_ ?_
          ·
            exact sh_sound _ _ _ _ (Eq.mp (by kernel_rfl) h)
          · intro σ w h
            obtain ⟨x4, e4, h⟩ := vB_elim h
            refine J.sub ?_ ((Sub.base _).upd e4)
            clear e4
            exact sh_sound _ _ _ _ (Eq.mp (by kernel_rfl) h)

/-! ### hayloft/hayloftlaw12.HandleOnce: function 4 -/
abbrev law12_HandleOnce.p15 (L1 : Option Addr → Nat → Nat → Option Addr → Nat → Nat → Option Addr → Option Addr → Nat → Nat → Int → World → Prop) (K : Value → World → Prop) (x1A : Option Addr) (x1n : Nat) (x1c : Nat) (x5A : Option Addr) (x5n : Nat) (x5c : Nat) (x8 : Option Addr) (x10A : Option Addr) (x10n : Nat) (x10c : Nat) (x11 : Int) (w : World) : Prop :=
  L1 x1A x1n x1c x5A x5n x5c x8 x10A x10n x10c (IntKind.wrap .i64 (x11 + (1 : Int))) w
abbrev law12_HandleOnce.p14 (L1 : Option Addr → Nat → Nat → Option Addr → Nat → Nat → Option Addr → Option Addr → Nat → Nat → Int → World → Prop) (K : Value → World → Prop) (x1A : Option Addr) (x1n : Nat) (x1c : Nat) (x5A : Option Addr) (x5n : Nat) (x5c : Nat) (x8 : Option Addr) (x10A : Option Addr) (x10n : Nat) (x10c : Nat) (x11 : Int) (w : World) : Prop :=
  law12_HandleOnce.p15 L1 K x1A x1n x1c x5A x5n x5c x8 x10A x10n x10c x11 w
abbrev law12_HandleOnce.p26 (L1 : Option Addr → Nat → Nat → Option Addr → Nat → Nat → Option Addr → Option Addr → Nat → Nat → Int → World → Prop) (K : Value → World → Prop) (x1A : Option Addr) (x1n : Nat) (x1c : Nat) (x5A : Option Addr) (x5n : Nat) (x5c : Nat) (x8 : Option Addr) (x10A : Option Addr) (x10n : Nat) (x10c : Nat) (x11 : Int) (x14 : Int) (w : World) : Prop :=
  wlet (w.alloc (.cells #[.int .u64 x14] 25)) fun w39 => SemJ Try.prog (Builtin.append_ #[38, 38] 38 #[.slice x10A x10n x10c, .slice (some ⟨w.heap.size, 0, none⟩) 1 1]) (fun v40 w41 => ∃ (A42 : Option Addr) (m43 : Nat) (c44 : Nat), v40 = .slice A42 m43 c44 ∧ law12_HandleOnce.p15 L1 K x1A x1n x1c x5A x5n x5c x8 A42 m43 c44 x11 w41) w39
abbrev law12_HandleOnce.b2 (L2 : Option Addr → Nat → Nat → Option Addr → Nat → Nat → Option Addr → Option Addr → Nat → Nat → Int → Int → Option Addr → Nat → Nat → Int → Int → World → Prop) (L1 : Option Addr → Nat → Nat → Option Addr → Nat → Nat → Option Addr → Option Addr → Nat → Nat → Int → World → Prop) (K : Value → World → Prop) (x1A : Option Addr) (x1n : Nat) (x1c : Nat) (x5A : Option Addr) (x5n : Nat) (x5c : Nat) (x8 : Option Addr) (x10A : Option Addr) (x10n : Nat) (x10c : Nat) (x11 : Int) (x14 : Int) (x137A : Option Addr) (x137n : Nat) (x137c : Nat) (x138 : Int) (x139 : Int) (w : World) : Prop :=
  condP (decide (x139 < x138)) ((0 ≤ x139 ∧ x139 < ((x137n : Nat) : Int)) ∧ ∃ (a37 : Addr), x137A = some a37 ∧ ∃ (n38 : Int), w.cell? (a37.add x139.toNat) = some (.int .u64 n38) ∧ condP (n38 == x14) (K (.bool false) w) (L2 x1A x1n x1c x5A x5n x5c x8 x10A x10n x10c x11 x14 x137A x137n x137c x138 (IntKind.wrap .i64 (x139 + (1 : Int))) w)) (law12_HandleOnce.p26 L1 K x1A x1n x1c x5A x5n x5c x8 x10A x10n x10c x11 x14 w)
def law12_HandleOnce.l2 (L1 : Option Addr → Nat → Nat → Option Addr → Nat → Nat → Option Addr → Option Addr → Nat → Nat → Int → World → Prop) (K : Value → World → Prop) (k : Nat) : Option Addr → Nat → Nat → Option Addr → Nat → Nat → Option Addr → Option Addr → Nat → Nat → Int → Int → Option Addr → Nat → Nat → Int → Int → World → Prop :=
  Nat.rec (motive := fun _ => Option Addr → Nat → Nat → Option Addr → Nat → Nat → Option Addr → Option Addr → Nat → Nat → Int → Int → Option Addr → Nat → Nat → Int → Int → World → Prop) (fun _ _ _ _ _ _ _ _ _ _ _ _ _ _ _ _ _ _ => False) (fun _ ih => law12_HandleOnce.b2 ih L1 K) k
theorem law12_HandleOnce.l2_succ (L1 : Option Addr → Nat → Nat → Option Addr → Nat → Nat → Option Addr → Option Addr → Nat → Nat → Int → World → Prop) (K : Value → World → Prop) (k : Nat) (x1A : Option Addr) (x1n : Nat) (x1c : Nat) (x5A : Option Addr) (x5n : Nat) (x5c : Nat) (x8 : Option Addr) (x10A : Option Addr) (x10n : Nat) (x10c : Nat) (x11 : Int) (x14 : Int) (x137A : Option Addr) (x137n : Nat) (x137c : Nat) (x138 : Int) (x139 : Int) (w : World) : law12_HandleOnce.l2 L1 K (k + 1) x1A x1n x1c x5A x5n x5c x8 x10A x10n x10c x11 x14 x137A x137n x137c x138 x139 w = law12_HandleOnce.b2 (law12_HandleOnce.l2 L1 K k) L1 K x1A x1n x1c x5A x5n x5c x8 x10A x10n x10c x11 x14 x137A x137n x137c x138 x139 w := rfl
abbrev law12_HandleOnce.p25 (L1 : Option Addr → Nat → Nat → Option Addr → Nat → Nat → Option Addr → Option Addr → Nat → Nat → Int → World → Prop) (K : Value → World → Prop) (x1A : Option Addr) (x1n : Nat) (x1c : Nat) (x5A : Option Addr) (x5n : Nat) (x5c : Nat) (x8 : Option Addr) (x10A : Option Addr) (x10n : Nat) (x10c : Nat) (x11 : Int) (x14 : Int) (x137A : Option Addr) (x137n : Nat) (x137c : Nat) (x138 : Int) (x139 : Int) (w : World) : Prop :=
  ∃ k, law12_HandleOnce.l2 L1 K k x1A x1n x1c x5A x5n x5c x8 x10A x10n x10c x11 x14 x137A x137n x137c x138 x139 w
abbrev law12_HandleOnce.p24 (L1 : Option Addr → Nat → Nat → Option Addr → Nat → Nat → Option Addr → Option Addr → Nat → Nat → Int → World → Prop) (K : Value → World → Prop) (x1A : Option Addr) (x1n : Nat) (x1c : Nat) (x5A : Option Addr) (x5n : Nat) (x5c : Nat) (x8 : Option Addr) (x10A : Option Addr) (x10n : Nat) (x10c : Nat) (x11 : Int) (x14 : Int) (w : World) : Prop :=
  law12_HandleOnce.p25 L1 K x1A x1n x1c x5A x5n x5c x8 x10A x10n x10c x11 x14 x10A x10n x10c ((x10n : Nat) : Int) 0 w
abbrev law12_HandleOnce.p23 (L1 : Option Addr → Nat → Nat → Option Addr → Nat → Nat → Option Addr → Option Addr → Nat → Nat → Int → World → Prop) (K : Value → World → Prop) (x1A : Option Addr) (x1n : Nat) (x1c : Nat) (x5A : Option Addr) (x5n : Nat) (x5c : Nat) (x8 : Option Addr) (x10A : Option Addr) (x10n : Nat) (x10c : Nat) (x11 : Int) (x14 : Int) (x136 : Bool) (w : World) : Prop :=
  condP x136 (K (.bool false) w) (law12_HandleOnce.p24 L1 K x1A x1n x1c x5A x5n x5c x8 x10A x10n x10c x11 x14 w)
abbrev law12_HandleOnce.p22 (L1 : Option Addr → Nat → Nat → Option Addr → Nat → Nat → Option Addr → Option Addr → Nat → Nat → Int → World → Prop) (K : Value → World → Prop) (x1A : Option Addr) (x1n : Nat) (x1c : Nat) (x5A : Option Addr) (x5n : Nat) (x5c : Nat) (x8 : Option Addr) (x10A : Option Addr) (x10n : Nat) (x10c : Nat) (x11 : Int) (x14 : Int) (x16 : Int) (w : World) : Prop :=
  condP (decide (x16 < (0 : Int))) (law12_HandleOnce.p23 L1 K x1A x1n x1c x5A x5n x5c x8 x10A x10n x10c x11 x14 true w) (condP (decide (((x5n : Nat) : Int) ≤ x16)) (law12_HandleOnce.p23 L1 K x1A x1n x1c x5A x5n x5c x8 x10A x10n x10c x11 x14 true w) ((65536 : Int) ≠ 0 ∧ (0 ≤ x16 ∧ x16 < ((x5n : Nat) : Int)) ∧ ∃ (a45 : Addr), x5A = some a45 ∧ ∃ (n46 : Int), w.cell? (a45.add (x16.toNat * 4)) = some (.int .i64 n46) ∧ condP (decide ((IntKind.wrap .i64 (IntKind.wrap .u64 (Int.tdiv x14 65536))) ≤ n46)) (law12_HandleOnce.p23 L1 K x1A x1n x1c x5A x5n x5c x8 x10A x10n x10c x11 x14 true w) ((65536 : Int) ≠ 0 ∧ law12_HandleOnce.p23 L1 K x1A x1n x1c x5A x5n x5c x8 x10A x10n x10c x11 x14 (decide ((65535 : Int) < (IntKind.wrap .i64 (IntKind.wrap .u64 (Int.tdiv x14 65536))))) w)))
abbrev law12_HandleOnce.p21 (L1 : Option Addr → Nat → Nat → Option Addr → Nat → Nat → Option Addr → Option Addr → Nat → Nat → Int → World → Prop) (K : Value → World → Prop) (x1A : Option Addr) (x1n : Nat) (x1c : Nat) (x5A : Option Addr) (x5n : Nat) (x5c : Nat) (x8 : Option Addr) (x10A : Option Addr) (x10n : Nat) (x10c : Nat) (x11 : Int) (x14 : Int) (w : World) : Prop :=
  (65536 : Int) ≠ 0 ∧ law12_HandleOnce.p22 L1 K x1A x1n x1c x5A x5n x5c x8 x10A x10n x10c x11 x14 (IntKind.wrap .i64 ((IntKind.wrap .i64 (Int.tmod x14 65536)) - (1 : Int))) w
abbrev law12_HandleOnce.p20 (L1 : Option Addr → Nat → Nat → Option Addr → Nat → Nat → Option Addr → Option Addr → Nat → Nat → Int → World → Prop) (K : Value → World → Prop) (x1A : Option Addr) (x1n : Nat) (x1c : Nat) (x5A : Option Addr) (x5n : Nat) (x5c : Nat) (x8 : Option Addr) (x10A : Option Addr) (x10n : Nat) (x10c : Nat) (x11 : Int) (x13 : Bool) (x14 : Int) (w : World) : Prop :=
  condP x13 (law12_HandleOnce.p15 L1 K x1A x1n x1c x5A x5n x5c x8 x10A x10n x10c x11 w) (law12_HandleOnce.p21 L1 K x1A x1n x1c x5A x5n x5c x8 x10A x10n x10c x11 x14 w)
abbrev law12_HandleOnce.p19 (L1 : Option Addr → Nat → Nat → Option Addr → Nat → Nat → Option Addr → Option Addr → Nat → Nat → Int → World → Prop) (K : Value → World → Prop) (x1A : Option Addr) (x1n : Nat) (x1c : Nat) (x5A : Option Addr) (x5n : Nat) (x5c : Nat) (x8 : Option Addr) (x10A : Option Addr) (x10n : Nat) (x10c : Nat) (x11 : Int) (x13 : Bool) (x14 : Int) (x106 : Bool) (w : World) : Prop :=
  condP x106 (K (.bool false) w) (law12_HandleOnce.p20 L1 K x1A x1n x1c x5A x5n x5c x8 x10A x10n x10c x11 x13 x14 w)
abbrev law12_HandleOnce.p18 (L1 : Option Addr → Nat → Nat → Option Addr → Nat → Nat → Option Addr → Option Addr → Nat → Nat → Int → World → Prop) (K : Value → World → Prop) (x1A : Option Addr) (x1n : Nat) (x1c : Nat) (x5A : Option Addr) (x5n : Nat) (x5c : Nat) (x8 : Option Addr) (x10A : Option Addr) (x10n : Nat) (x10c : Nat) (x11 : Int) (x13 : Bool) (x14 : Int) (x15 : Int) (w : World) : Prop :=
  condP (!(x13 == (x15 == (7 : Int)))) (law12_HandleOnce.p19 L1 K x1A x1n x1c x5A x5n x5c x8 x10A x10n x10c x11 x13 x14 true w) (condP x13 (law12_HandleOnce.p19 L1 K x1A x1n x1c x5A x5n x5c x8 x10A x10n x10c x11 x13 x14 (x14 != (0 : Int)) w) (law12_HandleOnce.p19 L1 K x1A x1n x1c x5A x5n x5c x8 x10A x10n x10c x11 x13 x14 false w))
abbrev law12_HandleOnce.p17 (L1 : Option Addr → Nat → Nat → Option Addr → Nat → Nat → Option Addr → Option Addr → Nat → Nat → Int → World → Prop) (K : Value → World → Prop) (x1A : Option Addr) (x1n : Nat) (x1c : Nat) (x5A : Option Addr) (x5n : Nat) (x5c : Nat) (x8 : Option Addr) (x10A : Option Addr) (x10n : Nat) (x10c : Nat) (x11 : Int) (x13 : Bool) (w : World) : Prop :=
  CallsE Try.prog 17 #[.pointer x8, .int .i64 0, .int .i64 0] w (fun v33 w34 => ∃ (n35 : Int) (n36 : Int), v33 = .tuple #[.int .u64 n35, .int .i64 n36] ∧ law12_HandleOnce.p18 L1 K x1A x1n x1c x5A x5n x5c x8 x10A x10n x10c x11 x13 n35 n36 w34)
abbrev law12_HandleOnce.p16 (L1 : Option Addr → Nat → Nat → Option Addr → Nat → Nat → Option Addr → Option Addr → Nat → Nat → Int → World → Prop) (K : Value → World → Prop) (x1A : Option Addr) (x1n : Nat) (x1c : Nat) (x5A : Option Addr) (x5n : Nat) (x5c : Nat) (x8 : Option Addr) (x10A : Option Addr) (x10n : Nat) (x10c : Nat) (x11 : Int) (w : World) : Prop :=
  CallsE Try.prog 16 #[.pointer x8] w (fun v30 w31 => ∃ (b32 : Bool), v30 = .bool b32 ∧ law12_HandleOnce.p17 L1 K x1A x1n x1c x5A x5n x5c x8 x10A x10n x10c x11 b32 w31)
abbrev law12_HandleOnce.p13 (L1 : Option Addr → Nat → Nat → Option Addr → Nat → Nat → Option Addr → Option Addr → Nat → Nat → Int → World → Prop) (K : Value → World → Prop) (x1A : Option Addr) (x1n : Nat) (x1c : Nat) (x5A : Option Addr) (x5n : Nat) (x5c : Nat) (x8 : Option Addr) (x10A : Option Addr) (x10n : Nat) (x10c : Nat) (x11 : Int) (x67 : Bool) (w : World) : Prop :=
  condP x67 (CallsE Try.prog 14 #[.pointer x8] w (fun v18 w19 => ∃ (A20 : Option Addr) (m21 : Nat) (c22 : Nat), v18 = .slice A20 m21 c22 ∧ condP (decide ((0 : Int) < ((m21 : Nat) : Int))) ((0 ≤ x11 ∧ x11 < ((x1n : Nat) : Int)) ∧ ∃ (a23 : Addr), x1A = some a23 ∧ ∃ (n24 : Int), w19.cell? ((a23.add (x11.toNat * 5)).add 1) = some (.int .i64 n24) ∧ (IntKind.wrap .u64 ((m21 : Nat) : Int)) ≠ 0 ∧ (0 ≤ (IntKind.wrap .i64 (Int.tmod (IntKind.wrap .u64 n24) (IntKind.wrap .u64 ((m21 : Nat) : Int)))) ∧ (IntKind.wrap .i64 (Int.tmod (IntKind.wrap .u64 n24) (IntKind.wrap .u64 ((m21 : Nat) : Int)))) < ((m21 : Nat) : Int)) ∧ ∃ (a25 : Addr), A20 = some a25 ∧ ∃ (n26 : Int), w19.cell? (a25.add ((IntKind.wrap .i64 (Int.tmod (IntKind.wrap .u64 n24) (IntKind.wrap .u64 ((m21 : Nat) : Int)))).toNat)) = some (.int .u64 n26) ∧ CallsE Try.prog 15 #[.pointer x8, .int .u64 n26] w19 (fun v27 w28 => ∃ (n29 : Int), v27 = .int .i64 n29 ∧ law12_HandleOnce.p14 L1 K x1A x1n x1c x5A x5n x5c x8 x10A x10n x10c x11 w28)) (law12_HandleOnce.p14 L1 K x1A x1n x1c x5A x5n x5c x8 x10A x10n x10c x11 w19))) (law12_HandleOnce.p16 L1 K x1A x1n x1c x5A x5n x5c x8 x10A x10n x10c x11 w)
abbrev law12_HandleOnce.p12 (L1 : Option Addr → Nat → Nat → Option Addr → Nat → Nat → Option Addr → Option Addr → Nat → Nat → Int → World → Prop) (K : Value → World → Prop) (x1A : Option Addr) (x1n : Nat) (x1c : Nat) (x5A : Option Addr) (x5n : Nat) (x5c : Nat) (x8 : Option Addr) (x10A : Option Addr) (x10n : Nat) (x10c : Nat) (x11 : Int) (w : World) : Prop :=
  (0 ≤ x11 ∧ x11 < ((x1n : Nat) : Int)) ∧ ∃ (a16 : Addr), x1A = some a16 ∧ ∃ (n17 : Int), w.cell? (a16.add (x11.toNat * 5)) = some (.int .i64 n17) ∧ law12_HandleOnce.p13 L1 K x1A x1n x1c x5A x5n x5c x8 x10A x10n x10c x11 (n17 != (1 : Int)) w
abbrev law12_HandleOnce.p27 (K : Value → World → Prop) (w : World) : Prop :=
  K (.bool true) w
abbrev law12_HandleOnce.p11 (L1 : Option Addr → Nat → Nat → Option Addr → Nat → Nat → Option Addr → Option Addr → Nat → Nat → Int → World → Prop) (K : Value → World → Prop) (x1A : Option Addr) (x1n : Nat) (x1c : Nat) (x5A : Option Addr) (x5n : Nat) (x5c : Nat) (x8 : Option Addr) (x10A : Option Addr) (x10n : Nat) (x10c : Nat) (x11 : Int) (x59 : Bool) (w : World) : Prop :=
  condP x59 (law12_HandleOnce.p12 L1 K x1A x1n x1c x5A x5n x5c x8 x10A x10n x10c x11 w) (law12_HandleOnce.p27 K w)
abbrev law12_HandleOnce.b1 (L1 : Option Addr → Nat → Nat → Option Addr → Nat → Nat → Option Addr → Option Addr → Nat → Nat → Int → World → Prop) (K : Value → World → Prop) (x1A : Option Addr) (x1n : Nat) (x1c : Nat) (x5A : Option Addr) (x5n : Nat) (x5c : Nat) (x8 : Option Addr) (x10A : Option Addr) (x10n : Nat) (x10c : Nat) (x11 : Int) (w : World) : Prop :=
  condP (decide (x11 < ((x1n : Nat) : Int))) (law12_HandleOnce.p11 L1 K x1A x1n x1c x5A x5n x5c x8 x10A x10n x10c x11 (decide (x11 < (150 : Int))) w) (law12_HandleOnce.p11 L1 K x1A x1n x1c x5A x5n x5c x8 x10A x10n x10c x11 false w)
def law12_HandleOnce.l1 (K : Value → World → Prop) (k : Nat) : Option Addr → Nat → Nat → Option Addr → Nat → Nat → Option Addr → Option Addr → Nat → Nat → Int → World → Prop :=
  Nat.rec (motive := fun _ => Option Addr → Nat → Nat → Option Addr → Nat → Nat → Option Addr → Option Addr → Nat → Nat → Int → World → Prop) (fun _ _ _ _ _ _ _ _ _ _ _ _ => False) (fun _ ih => law12_HandleOnce.b1 ih K) k
theorem law12_HandleOnce.l1_succ (K : Value → World → Prop) (k : Nat) (x1A : Option Addr) (x1n : Nat) (x1c : Nat) (x5A : Option Addr) (x5n : Nat) (x5c : Nat) (x8 : Option Addr) (x10A : Option Addr) (x10n : Nat) (x10c : Nat) (x11 : Int) (w : World) : law12_HandleOnce.l1 K (k + 1) x1A x1n x1c x5A x5n x5c x8 x10A x10n x10c x11 w = law12_HandleOnce.b1 (law12_HandleOnce.l1 K k) K x1A x1n x1c x5A x5n x5c x8 x10A x10n x10c x11 w := rfl
abbrev law12_HandleOnce.p10 (K : Value → World → Prop) (x1A : Option Addr) (x1n : Nat) (x1c : Nat) (x5A : Option Addr) (x5n : Nat) (x5c : Nat) (x8 : Option Addr) (x10A : Option Addr) (x10n : Nat) (x10c : Nat) (x11 : Int) (w : World) : Prop :=
  ∃ k, law12_HandleOnce.l1 K k x1A x1n x1c x5A x5n x5c x8 x10A x10n x10c x11 w
abbrev law12_HandleOnce.p9 (K : Value → World → Prop) (x1A : Option Addr) (x1n : Nat) (x1c : Nat) (x5A : Option Addr) (x5n : Nat) (x5c : Nat) (x8 : Option Addr) (x10A : Option Addr) (x10n : Nat) (x10c : Nat) (w : World) : Prop :=
  law12_HandleOnce.p10 K x1A x1n x1c x5A x5n x5c x8 x10A x10n x10c 0 w
abbrev law12_HandleOnce.p8 (K : Value → World → Prop) (x1A : Option Addr) (x1n : Nat) (x1c : Nat) (x5A : Option Addr) (x5n : Nat) (x5c : Nat) (x8 : Option Addr) (w : World) : Prop :=
  law12_HandleOnce.p9 K x1A x1n x1c x5A x5n x5c x8 none 0 0 w
abbrev law12_HandleOnce.p7 (K : Value → World → Prop) (x1A : Option Addr) (x1n : Nat) (x1c : Nat) (x5A : Option Addr) (x5n : Nat) (x5c : Nat) (x8 : Option Addr) (x9 : Int) (w : World) : Prop :=
  condP (x9 != (0 : Int)) (K (.bool false) w) (law12_HandleOnce.p8 K x1A x1n x1c x5A x5n x5c x8 w)
abbrev law12_HandleOnce.p6 (K : Value → World → Prop) (x1A : Option Addr) (x1n : Nat) (x1c : Nat) (x5A : Option Addr) (x5n : Nat) (x5c : Nat) (w : World) : Prop :=
  CallsE Try.prog 13 #[.int .i64 ((x5n : Nat) : Int), .slice x5A x5n x5c] w (fun v12 w13 => ∃ (p14 : Option Addr) (n15 : Int), v12 = .tuple #[.pointer p14, .int .i64 n15] ∧ law12_HandleOnce.p7 K x1A x1n x1c x5A x5n x5c p14 n15 w13)
abbrev law12_HandleOnce.b0 (L0 : Option Addr → Nat → Nat → Option Addr → Nat → Nat → Option Addr → Nat → Nat → Int → Int → World → Prop) (K : Value → World → Prop) (x1A : Option Addr) (x1n : Nat) (x1c : Nat) (x5A : Option Addr) (x5n : Nat) (x5c : Nat) (x29A : Option Addr) (x29n : Nat) (x29c : Nat) (x30 : Int) (x31 : Int) (w : World) : Prop :=
  condP (decide (x31 < x30)) ((0 ≤ x31 ∧ x31 < ((x29n : Nat) : Int)) ∧ ∃ (a4 : Addr), x29A = some a4 ∧ ∃ (n5 : Int), w.cell? (a4.add x31.toNat) = some (.int .u16 n5) ∧ wlet (w.alloc (.cells #[.int .i64 (imax 1 (IntKind.wrap .i64 n5)), .bool false, .int .i64 0, .int .i64 0] 33)) fun w6 => SemJ Try.prog (Builtin.append_ #[30, 30] 30 #[.slice x5A x5n x5c, .slice (some ⟨w.heap.size, 0, none⟩) 1 1]) (fun v7 w8 => ∃ (A9 : Option Addr) (m10 : Nat) (c11 : Nat), v7 = .slice A9 m10 c11 ∧ L0 x1A x1n x1c A9 m10 c11 x29A x29n x29c x30 (IntKind.wrap .i64 (x31 + (1 : Int))) w8) w6) (law12_HandleOnce.p6 K x1A x1n x1c x5A x5n x5c w)
def law12_HandleOnce.l0 (K : Value → World → Prop) (k : Nat) : Option Addr → Nat → Nat → Option Addr → Nat → Nat → Option Addr → Nat → Nat → Int → Int → World → Prop :=
  Nat.rec (motive := fun _ => Option Addr → Nat → Nat → Option Addr → Nat → Nat → Option Addr → Nat → Nat → Int → Int → World → Prop) (fun _ _ _ _ _ _ _ _ _ _ _ _ => False) (fun _ ih => law12_HandleOnce.b0 ih K) k
theorem law12_HandleOnce.l0_succ (K : Value → World → Prop) (k : Nat) (x1A : Option Addr) (x1n : Nat) (x1c : Nat) (x5A : Option Addr) (x5n : Nat) (x5c : Nat) (x29A : Option Addr) (x29n : Nat) (x29c : Nat) (x30 : Int) (x31 : Int) (w : World) : law12_HandleOnce.l0 K (k + 1) x1A x1n x1c x5A x5n x5c x29A x29n x29c x30 x31 w = law12_HandleOnce.b0 (law12_HandleOnce.l0 K k) K x1A x1n x1c x5A x5n x5c x29A x29n x29c x30 x31 w := rfl
abbrev law12_HandleOnce.p5 (K : Value → World → Prop) (x1A : Option Addr) (x1n : Nat) (x1c : Nat) (x5A : Option Addr) (x5n : Nat) (x5c : Nat) (x29A : Option Addr) (x29n : Nat) (x29c : Nat) (x30 : Int) (x31 : Int) (w : World) : Prop :=
  ∃ k, law12_HandleOnce.l0 K k x1A x1n x1c x5A x5n x5c x29A x29n x29c x30 x31 w
abbrev law12_HandleOnce.p4 (K : Value → World → Prop) (x0A : Option Addr) (x0n : Nat) (x0c : Nat) (x1A : Option Addr) (x1n : Nat) (x1c : Nat) (x5A : Option Addr) (x5n : Nat) (x5c : Nat) (w : World) : Prop :=
  law12_HandleOnce.p5 K x1A x1n x1c x5A x5n x5c x0A x0n x0c ((x0n : Nat) : Int) 0 w
abbrev law12_HandleOnce.p3 (K : Value → World → Prop) (x0A : Option Addr) (x0n : Nat) (x0c : Nat) (x1A : Option Addr) (x1n : Nat) (x1c : Nat) (w : World) : Prop :=
  law12_HandleOnce.p4 K x0A x0n x0c x1A x1n x1c none 0 0 w
abbrev law12_HandleOnce.p2 (K : Value → World → Prop) (x0A : Option Addr) (x0n : Nat) (x0c : Nat) (x1A : Option Addr) (x1n : Nat) (x1c : Nat) (x28 : Bool) (w : World) : Prop :=
  condP x28 (K (.bool true) w) (law12_HandleOnce.p3 K x0A x0n x0c x1A x1n x1c w)
abbrev law12_HandleOnce.p1 (K : Value → World → Prop) (x0A : Option Addr) (x0n : Nat) (x0c : Nat) (x1A : Option Addr) (x1n : Nat) (x1c : Nat) (w : World) : Prop :=
  condP (((x0n : Nat) : Int) == (0 : Int)) (law12_HandleOnce.p2 K x0A x0n x0c x1A x1n x1c true w) (law12_HandleOnce.p2 K x0A x0n x0c x1A x1n x1c (decide ((20 : Int) < ((x0n : Nat) : Int))) w)
abbrev law12_HandleOnce.p0 (K : Value → World → Prop) (x0A : Option Addr) (x0n : Nat) (x0c : Nat) (x1A : Option Addr) (x1n : Nat) (x1c : Nat) (w : World) : Prop :=
  CallsE Try.prog 10 #[] w (fun v1 w2 => ∃ (b3 : Bool), v1 = .bool b3 ∧ condP (!b3) (K (.bool false) w2) (law12_HandleOnce.p1 K x0A x0n x0c x1A x1n x1c w2))
abbrev law12_HandleOnce.F (q0A : Option Addr) (q0n : Nat) (q0c : Nat) (q1A : Option Addr) (q1n : Nat) (q1c : Nat) (K : Value → World → Prop) (w : World) : Prop :=
  law12_HandleOnce.p0 K q0A q0n q0c q1A q1n q1c w
theorem law12_HandleOnce.ok {q0A : Option Addr} {q0n : Nat} {q0c : Nat} {q1A : Option Addr} {q1n : Nat} {q1c : Nat} {K : Value → World → Prop} {w : World} (h : law12_HandleOnce.F q0A q0n q0c q1A q1n q1c K w) :
    CallsE Try.prog 4 #[.slice q0A q0n q0c, .slice q1A q1n q1c] w K := by
  refine calls_of_J (n := 151) (rs := [.tmp 4]) Try.func4 rfl rfl rfl rfl ?_
  refine J_seq (fun σ w => vS (σ 0) fun x0A x0n x0c => vS (σ 1) fun x1A x1n x1c => law12_HandleOnce.p0 K x0A x0n x0c x1A x1n x1c w) ?_ ?_
  ·
    exact sh_sound _ _ _ _ (Eq.mp (by kernel_rfl) h)
  · intro σ w h
    obtain ⟨x0A, x0n, x0c, e0, h⟩ := vS_elim h
    obtain ⟨x1A, x1n, x1c, e1, h⟩ := vS_elim h
    refine J.sub ?_ (((Sub.base _).upd e0).upd e1)
    clear e0 e1
    refine J_seq (fun σ w => vS (σ 0) fun x0A x0n x0c => vS (σ 1) fun x1A x1n x1c => law12_HandleOnce.p1 K x0A x0n x0c x1A x1n x1c w) ?_ ?_
    ·
      exact sh_sound _ _ _ _ (Eq.mp (by kernel_rfl) h)
    · intro σ w h
      obtain ⟨x0A, x0n, x0c, e0, h⟩ := vS_elim h
      obtain ⟨x1A, x1n, x1c, e1, h⟩ := vS_elim h
      refine J.sub ?_ (((Sub.base _).upd e0).upd e1)
      clear e0 e1
      refine J_seq (fun σ w => vS (σ 0) fun x0A x0n x0c => vS (σ 1) fun x1A x1n x1c => law12_HandleOnce.p3 K x0A x0n x0c x1A x1n x1c w) ?_ ?_
      ·
        refine J_seq (fun σ w => vS (σ 0) fun x0A x0n x0c => vS (σ 1) fun x1A x1n x1c => vB (σ 28) fun x28 => law12_HandleOnce.p2 K x0A x0n x0c x1A x1n x1c x28 w) ?_ ?_
        ·
          exact sh_sound _ _ _ _ (Eq.mp (by kernel_rfl) h)
        · intro σ w h
          obtain ⟨x0A, x0n, x0c, e0, h⟩ := vS_elim h
          obtain ⟨x1A, x1n, x1c, e1, h⟩ := vS_elim h
          obtain ⟨x28, e28, h⟩ := vB_elim h
          refine J.sub ?_ ((((Sub.base _).upd e0).upd e1).upd e28)
          clear e0 e1 e28
          exact sh_sound _ _ _ _ (Eq.mp (by kernel_rfl) h)
      · intro σ w h
        obtain ⟨x0A, x0n, x0c, e0, h⟩ := vS_elim h
        obtain ⟨x1A, x1n, x1c, e1, h⟩ := vS_elim h
        refine J.sub ?_ (((Sub.base _).upd e0).upd e1)
        clear e0 e1
        refine J_seq (fun σ w => vS (σ 0) fun x0A x0n x0c => vS (σ 1) fun x1A x1n x1c => vS (σ 5) fun x5A x5n x5c => law12_HandleOnce.p4 K x0A x0n x0c x1A x1n x1c x5A x5n x5c w) ?_ ?_
        ·
          exact sh_sound _ _ _ _ (Eq.mp (by kernel_rfl) h)
        · intro σ w h
          obtain ⟨x0A, x0n, x0c, e0, h⟩ := vS_elim h
          obtain ⟨x1A, x1n, x1c, e1, h⟩ := vS_elim h
          obtain ⟨x5A, x5n, x5c, e5, h⟩ := vS_elim h
          refine J.sub ?_ ((((Sub.base _).upd e0).upd e1).upd e5)
          clear e0 e1 e5
          refine J_seq (fun σ w => vS (σ 1) fun x1A x1n x1c => vS (σ 5) fun x5A x5n x5c => law12_HandleOnce.p6 K x1A x1n x1c x5A x5n x5c w) ?_ ?_
          ·
            refine J_seq (fun σ w => vS (σ 1) fun x1A x1n x1c => vS (σ 5) fun x5A x5n x5c => vS (σ 29) fun x29A x29n x29c => vI .i64 (σ 30) fun x30 => vI .i64 (σ 31) fun x31 => law12_HandleOnce.p5 K x1A x1n x1c x5A x5n x5c x29A x29n x29c x30 x31 w) ?_ ?_
            ·
              exact sh_sound _ _ _ _ (Eq.mp (by kernel_rfl) h)
            · intro σ w h
              obtain ⟨x1A, x1n, x1c, e1, h⟩ := vS_elim h
              obtain ⟨x5A, x5n, x5c, e5, h⟩ := vS_elim h
              obtain ⟨x29A, x29n, x29c, e29, h⟩ := vS_elim h
              obtain ⟨x30, e30, h⟩ := vI_elim h
              obtain ⟨x31, e31, h⟩ := vI_elim h
              refine J.sub ?_ ((((((Sub.base _).upd e1).upd e5).upd e29).upd e30).upd e31)
              clear e1 e5 e29 e30 e31
              refine J_block ?_
              refine J_loop (fun k σ w => vS (σ 1) fun x1A x1n x1c => vS (σ 5) fun x5A x5n x5c => vS (σ 29) fun x29A x29n x29c => vI .i64 (σ 30) fun x30 => vI .i64 (σ 31) fun x31 => law12_HandleOnce.l0 K k x1A x1n x1c x5A x5n x5c x29A x29n x29c x30 x31 w) (Eq.mp (by kernel_rfl) h) ?_ ?_
              · intro σ w h
                obtain ⟨x1A, x1n, x1c, e1, h⟩ := vS_elim h
                obtain ⟨x5A, x5n, x5c, e5, h⟩ := vS_elim h
                obtain ⟨x29A, x29n, x29c, e29, h⟩ := vS_elim h
                obtain ⟨x30, e30, h⟩ := vI_elim h
                obtain ⟨x31, e31, h⟩ := vI_elim h
                exact h
              · intro k0 σ w h
                obtain ⟨x1A, x1n, x1c, e1, h⟩ := vS_elim h
                obtain ⟨x5A, x5n, x5c, e5, h⟩ := vS_elim h
                obtain ⟨x29A, x29n, x29c, e29, h⟩ := vS_elim h
                obtain ⟨x30, e30, h⟩ := vI_elim h
                obtain ⟨x31, e31, h⟩ := vI_elim h
                refine J.sub ?_ ((((((Sub.base _).upd e1).upd e5).upd e29).upd e30).upd e31)
                clear e1 e5 e29 e30 e31
                exact sh_sound _ _ _ _ (Eq.mp (by kernel_rfl) h)
          · intro σ w h
            obtain ⟨x1A, x1n, x1c, e1, h⟩ := vS_elim h
            obtain ⟨x5A, x5n, x5c, e5, h⟩ := vS_elim h
            refine J.sub ?_ (((Sub.base _).upd e1).upd e5)
            clear e1 e5
            refine J_seq (fun σ w => vS (σ 1) fun x1A x1n x1c => vS (σ 5) fun x5A x5n x5c => vP (σ 8) fun x8 => vI .i64 (σ 9) fun x9 => law12_HandleOnce.p7 K x1A x1n x1c x5A x5n x5c x8 x9 w) ?_ ?_
            ·
              exact sh_sound _ _ _ _ (Eq.mp (by kernel_rfl) h)
            · intro σ w h
              obtain ⟨x1A, x1n, x1c, e1, h⟩ := vS_elim h
              obtain ⟨x5A, x5n, x5c, e5, h⟩ := vS_elim h
              obtain ⟨x8, e8, h⟩ := vP_elim h
              obtain ⟨x9, e9, h⟩ := vI_elim h
              refine J.sub ?_ (((((Sub.base _).upd e1).upd e5).upd e8).upd e9)
              clear e1 e5 e8 e9
              refine J_seq (fun σ w => vS (σ 1) fun x1A x1n x1c => vS (σ 5) fun x5A x5n x5c => vP (σ 8) fun x8 => law12_HandleOnce.p8 K x1A x1n x1c x5A x5n x5c x8 w) ?_ ?_
              ·
                exact sh_sound _ _ _ _ (Eq.mp (by kernel_rfl) h)
              · intro σ w h
                obtain ⟨x1A, x1n, x1c, e1, h⟩ := vS_elim h
                obtain ⟨x5A, x5n, x5c, e5, h⟩ := vS_elim h
                obtain ⟨x8, e8, h⟩ := vP_elim h
                refine J.sub ?_ ((((Sub.base _).upd e1).upd e5).upd e8)
                clear e1 e5 e8
                refine J_seq (fun σ w => vS (σ 1) fun x1A x1n x1c => vS (σ 5) fun x5A x5n x5c => vP (σ 8) fun x8 => vS (σ 10) fun x10A x10n x10c => law12_HandleOnce.p9 K x1A x1n x1c x5A x5n x5c x8 x10A x10n x10c w) ?_ ?_
                ·
                  exact sh_sound _ _ _ _ (Eq.mp (by kernel_rfl) h)
                · intro σ w h
                  obtain ⟨x1A, x1n, x1c, e1, h⟩ := vS_elim h
                  obtain ⟨x5A, x5n, x5c, e5, h⟩ := vS_elim h
                  obtain ⟨x8, e8, h⟩ := vP_elim h
                  obtain ⟨x10A, x10n, x10c, e10, h⟩ := vS_elim h
                  refine J.sub ?_ (((((Sub.base _).upd e1).upd e5).upd e8).upd e10)
                  clear e1 e5 e8 e10
                  refine J_seq (fun σ w => law12_HandleOnce.p27 K w) ?_ ?_
                  ·
                    refine J_seq (fun σ w => vS (σ 1) fun x1A x1n x1c => vS (σ 5) fun x5A x5n x5c => vP (σ 8) fun x8 => vS (σ 10) fun x10A x10n x10c => vI .i64 (σ 11) fun x11 => law12_HandleOnce.p10 K x1A x1n x1c x5A x5n x5c x8 x10A x10n x10c x11 w) ?_ ?_
                    ·
                      exact sh_sound _ _ _ _ (Eq.mp (by kernel_rfl) h)
                    · intro σ w h
                      obtain ⟨x1A, x1n, x1c, e1, h⟩ := vS_elim h
                      obtain ⟨x5A, x5n, x5c, e5, h⟩ := vS_elim h
                      obtain ⟨x8, e8, h⟩ := vP_elim h
                      obtain ⟨x10A, x10n, x10c, e10, h⟩ := vS_elim h
                      obtain ⟨x11, e11, h⟩ := vI_elim h
                      refine J.sub ?_ ((((((Sub.base _).upd e1).upd e5).upd e8).upd e10).upd e11)
                      clear e1 e5 e8 e10 e11
                      refine J_block ?_
                      refine J_loop (fun k σ w => vS (σ 1) fun x1A x1n x1c => vS (σ 5) fun x5A x5n x5c => vP (σ 8) fun x8 => vS (σ 10) fun x10A x10n x10c => vI .i64 (σ 11) fun x11 => law12_HandleOnce.l1 K k x1A x1n x1c x5A x5n x5c x8 x10A x10n x10c x11 w) (Eq.mp (by kernel_rfl) h) ?_ ?_
                      · intro σ w h
                        obtain ⟨x1A, x1n, x1c, e1, h⟩ := vS_elim h
                        obtain ⟨x5A, x5n, x5c, e5, h⟩ := vS_elim h
                        obtain ⟨x8, e8, h⟩ := vP_elim h
                        obtain ⟨x10A, x10n, x10c, e10, h⟩ := vS_elim h
                        obtain ⟨x11, e11, h⟩ := vI_elim h
                        exact h
                      · intro k1 σ w h
                        obtain ⟨x1A, x1n, x1c, e1, h⟩ := vS_elim h
                        obtain ⟨x5A, x5n, x5c, e5, h⟩ := vS_elim h
                        obtain ⟨x8, e8, h⟩ := vP_elim h
                        obtain ⟨x10A, x10n, x10c, e10, h⟩ := vS_elim h
                        obtain ⟨x11, e11, h⟩ := vI_elim h
                        refine J.sub ?_ ((((((Sub.base _).upd e1).upd e5).upd e8).upd e10).upd e11)
                        clear e1 e5 e8 e10 e11
                        refine J_seq (fun σ w => vS (σ 1) fun x1A x1n x1c => vS (σ 5) fun x5A x5n x5c => vP (σ 8) fun x8 => vS (σ 10) fun x10A x10n x10c => vI .i64 (σ 11) fun x11 => law12_HandleOnce.p12 (law12_HandleOnce.l1 K k1) K x1A x1n x1c x5A x5n x5c x8 x10A x10n x10c x11 w) ?_ ?_
                        ·
                          refine J_seq (fun σ w => vS (σ 1) fun x1A x1n x1c => vS (σ 5) fun x5A x5n x5c => vP (σ 8) fun x8 => vS (σ 10) fun x10A x10n x10c => vI .i64 (σ 11) fun x11 => vB (σ 59) fun x59 => law12_HandleOnce.p11 (law12_HandleOnce.l1 K k1) K x1A x1n x1c x5A x5n x5c x8 x10A x10n x10c x11 x59 w) ?_ ?_
                          ·
                            exact sh_sound _ _ _ _ (Eq.mp (by kernel_rfl) h)
                          · intro σ w h
                            obtain ⟨x1A, x1n, x1c, e1, h⟩ := vS_elim h
                            obtain ⟨x5A, x5n, x5c, e5, h⟩ := vS_elim h
                            obtain ⟨x8, e8, h⟩ := vP_elim h
                            obtain ⟨x10A, x10n, x10c, e10, h⟩ := vS_elim h
                            obtain ⟨x11, e11, h⟩ := vI_elim h
                            obtain ⟨x59, e59, h⟩ := vB_elim h
                            refine J.sub ?_ (((((((Sub.base _).upd e1).upd e5).upd e8).upd e10).upd e11).upd e59)
                            clear e1 e5 e8 e10 e11 e59
                            exact sh_sound _ _ _ _ (Eq.mp (by kernel_rfl) h)
                        · intro σ w h
                          obtain ⟨x1A, x1n, x1c, e1, h⟩ := vS_elim h
                          obtain ⟨x5A, x5n, x5c, e5, h⟩ := vS_elim h
                          obtain ⟨x8, e8, h⟩ := vP_elim h
                          obtain ⟨x10A, x10n, x10c, e10, h⟩ := vS_elim h
                          obtain ⟨x11, e11, h⟩ := vI_elim h
                          refine J.sub ?_ ((((((Sub.base _).upd e1).upd e5).upd e8).upd e10).upd e11)
                          clear e1 e5 e8 e10 e11
                          refine J_seq (fun σ w => vS (σ 1) fun x1A x1n x1c => vS (σ 5) fun x5A x5n x5c => vP (σ 8) fun x8 => vS (σ 10) fun x10A x10n x10c => vI .i64 (σ 11) fun x11 => law12_HandleOnce.p15 (law12_HandleOnce.l1 K k1) K x1A x1n x1c x5A x5n x5c x8 x10A x10n x10c x11 w) ?_ ?_
                          ·
                            refine J_block ?_
                            refine J_seq (fun σ w => vS (σ 1) fun x1A x1n x1c => vS (σ 5) fun x5A x5n x5c => vP (σ 8) fun x8 => vS (σ 10) fun x10A x10n x10c => vI .i64 (σ 11) fun x11 => law12_HandleOnce.p16 (law12_HandleOnce.l1 K k1) K x1A x1n x1c x5A x5n x5c x8 x10A x10n x10c x11 w) ?_ ?_
                            ·
                              refine J_seq (fun σ w => vS (σ 1) fun x1A x1n x1c => vS (σ 5) fun x5A x5n x5c => vP (σ 8) fun x8 => vS (σ 10) fun x10A x10n x10c => vI .i64 (σ 11) fun x11 => vB (σ 67) fun x67 => law12_HandleOnce.p13 (law12_HandleOnce.l1 K k1) K x1A x1n x1c x5A x5n x5c x8 x10A x10n x10c x11 x67 w) ?_ ?_
                              ·
                                exact sh_sound _ _ _ _ (Eq.mp (by kernel_rfl) h)
                              · intro σ w h
                                obtain ⟨x1A, x1n, x1c, e1, h⟩ := vS_elim h
                                obtain ⟨x5A, x5n, x5c, e5, h⟩ := vS_elim h
                                obtain ⟨x8, e8, h⟩ := vP_elim h
                                obtain ⟨x10A, x10n, x10c, e10, h⟩ := vS_elim h
                                obtain ⟨x11, e11, h⟩ := vI_elim h
                                obtain ⟨x67, e67, h⟩ := vB_elim h
                                refine J.sub ?_ (((((((Sub.base _).upd e1).upd e5).upd e8).upd e10).upd e11).upd e67)
                                clear e1 e5 e8 e10 e11 e67
                                refine J_cond' h (by kernel_rfl) (fun h => ?_) (fun h => ?_)
                                ·
                                  refine J_seq (fun σ w => vS (σ 1) fun x1A x1n x1c => vS (σ 5) fun x5A x5n x5c => vP (σ 8) fun x8 => vS (σ 10) fun x10A x10n x10c => vI .i64 (σ 11) fun x11 => law12_HandleOnce.p14 (law12_HandleOnce.l1 K k1) K x1A x1n x1c x5A x5n x5c x8 x10A x10n x10c x11 w) ?_ ?_
                                  ·
                                    exact sh_sound _ _ _ _ (Eq.mp (by kernel_rfl) h)
                                  · intro σ w h
                                    obtain ⟨x1A, x1n, x1c, e1, h⟩ := vS_elim h
                                    obtain ⟨x5A, x5n, x5c, e5, h⟩ := vS_elim h
                                    obtain ⟨x8, e8, h⟩ := vP_elim h
                                    obtain ⟨x10A, x10n, x10c, e10, h⟩ := vS_elim h
                                    obtain ⟨x11, e11, h⟩ := vI_elim h
                                    refine J.sub ?_ ((((((Sub.base _).upd e1).upd e5).upd e8).upd e10).upd e11)
                                    clear e1 e5 e8 e10 e11
                                    exact sh_sound _ _ _ _ (Eq.mp (by kernel_rfl) h)
                                ·
                                  exact sh_sound _ _ _ _ (Eq.mp (by kernel_rfl) h)
                            · intro σ w h
                              obtain ⟨x1A, x1n, x1c, e1, h⟩ := vS_elim h
                              obtain ⟨x5A, x5n, x5c, e5, h⟩ := vS_elim h
                              obtain ⟨x8, e8, h⟩ := vP_elim h
                              obtain ⟨x10A, x10n, x10c, e10, h⟩ := vS_elim h
                              obtain ⟨x11, e11, h⟩ := vI_elim h
                              refine J.sub ?_ ((((((Sub.base _).upd e1).upd e5).upd e8).upd e10).upd e11)
                              clear e1 e5 e8 e10 e11
                              refine J_seq (fun σ w => vS (σ 1) fun x1A x1n x1c => vS (σ 5) fun x5A x5n x5c => vP (σ 8) fun x8 => vS (σ 10) fun x10A x10n x10c => vI .i64 (σ 11) fun x11 => vB (σ 13) fun x13 => law12_HandleOnce.p17 (law12_HandleOnce.l1 K k1) K x1A x1n x1c x5A x5n x5c x8 x10A x10n x10c x11 x13 w) ?_ ?_
                              ·
                                exact sh_sound _ _ _ _ (Eq.mp (by kernel_rfl) h)
                              · intro σ w h
                                obtain ⟨x1A, x1n, x1c, e1, h⟩ := vS_elim h
                                obtain ⟨x5A, x5n, x5c, e5, h⟩ := vS_elim h
                                obtain ⟨x8, e8, h⟩ := vP_elim h
                                obtain ⟨x10A, x10n, x10c, e10, h⟩ := vS_elim h
                                obtain ⟨x11, e11, h⟩ := vI_elim h
                                obtain ⟨x13, e13, h⟩ := vB_elim h
                                refine J.sub ?_ (((((((Sub.base _).upd e1).upd e5).upd e8).upd e10).upd e11).upd e13)
                                clear e1 e5 e8 e10 e11 e13
                                refine J_seq (fun σ w => vS (σ 1) fun x1A x1n x1c => vS (σ 5) fun x5A x5n x5c => vP (σ 8) fun x8 => vS (σ 10) fun x10A x10n x10c => vI .i64 (σ 11) fun x11 => vB (σ 13) fun x13 => vI .u64 (σ 14) fun x14 => vI .i64 (σ 15) fun x15 => law12_HandleOnce.p18 (law12_HandleOnce.l1 K k1) K x1A x1n x1c x5A x5n x5c x8 x10A x10n x10c x11 x13 x14 x15 w) ?_ ?_
                                ·
                                  exact sh_sound _ _ _ _ (Eq.mp (by kernel_rfl) h)
                                · intro σ w h
                                  obtain ⟨x1A, x1n, x1c, e1, h⟩ := vS_elim h
                                  obtain ⟨x5A, x5n, x5c, e5, h⟩ := vS_elim h
                                  obtain ⟨x8, e8, h⟩ := vP_elim h
                                  obtain ⟨x10A, x10n, x10c, e10, h⟩ := vS_elim h
                                  obtain ⟨x11, e11, h⟩ := vI_elim h
                                  obtain ⟨x13, e13, h⟩ := vB_elim h
                                  obtain ⟨x14, e14, h⟩ := vI_elim h
                                  obtain ⟨x15, e15, h⟩ := vI_elim h
                                  refine J.sub ?_ (((((((((Sub.base _).upd e1).upd e5).upd e8).upd e10).upd e11).upd e13).upd e14).upd e15)
                                  clear e1 e5 e8 e10 e11 e13 e14 e15
                                  refine J_seq (fun σ w => vS (σ 1) fun x1A x1n x1c => vS (σ 5) fun x5A x5n x5c => vP (σ 8) fun x8 => vS (σ 10) fun x10A x10n x10c => vI .i64 (σ 11) fun x11 => vB (σ 13) fun x13 => vI .u64 (σ 14) fun x14 => law12_HandleOnce.p20 (law12_HandleOnce.l1 K k1) K x1A x1n x1c x5A x5n x5c x8 x10A x10n x10c x11 x13 x14 w) ?_ ?_
                                  ·
                                    refine J_seq (fun σ w => vS (σ 1) fun x1A x1n x1c => vS (σ 5) fun x5A x5n x5c => vP (σ 8) fun x8 => vS (σ 10) fun x10A x10n x10c => vI .i64 (σ 11) fun x11 => vB (σ 13) fun x13 => vI .u64 (σ 14) fun x14 => vB (σ 106) fun x106 => law12_HandleOnce.p19 (law12_HandleOnce.l1 K k1) K x1A x1n x1c x5A x5n x5c x8 x10A x10n x10c x11 x13 x14 x106 w) ?_ ?_
                                    ·
                                      exact sh_sound _ _ _ _ (Eq.mp (by kernel_rfl) h)
                                    · intro σ w h
                                      obtain ⟨x1A, x1n, x1c, e1, h⟩ := vS_elim h
                                      obtain ⟨x5A, x5n, x5c, e5, h⟩ := vS_elim h
                                      obtain ⟨x8, e8, h⟩ := vP_elim h
                                      obtain ⟨x10A, x10n, x10c, e10, h⟩ := vS_elim h
                                      obtain ⟨x11, e11, h⟩ := vI_elim h
                                      obtain ⟨x13, e13, h⟩ := vB_elim h
                                      obtain ⟨x14, e14, h⟩ := vI_elim h
                                      obtain ⟨x106, e106, h⟩ := vB_elim h
                                      refine J.sub ?_ (((((((((Sub.base _).upd e1).upd e5).upd e8).upd e10).upd e11).upd e13).upd e14).upd e106)
                                      clear e1 e5 e8 e10 e11 e13 e14 e106
                                      exact sh_sound _ _ _ _ (Eq.mp (by kernel_rfl) h)
                                  · intro σ w h
                                    obtain ⟨x1A, x1n, x1c, e1, h⟩ := vS_elim h
                                    obtain ⟨x5A, x5n, x5c, e5, h⟩ := vS_elim h
                                    obtain ⟨x8, e8, h⟩ := vP_elim h
                                    obtain ⟨x10A, x10n, x10c, e10, h⟩ := vS_elim h
                                    obtain ⟨x11, e11, h⟩ := vI_elim h
                                    obtain ⟨x13, e13, h⟩ := vB_elim h
                                    obtain ⟨x14, e14, h⟩ := vI_elim h
                                    refine J.sub ?_ ((((((((Sub.base _).upd e1).upd e5).upd e8).upd e10).upd e11).upd e13).upd e14)
                                    clear e1 e5 e8 e10 e11 e13 e14
                                    refine J_seq (fun σ w => vS (σ 1) fun x1A x1n x1c => vS (σ 5) fun x5A x5n x5c => vP (σ 8) fun x8 => vS (σ 10) fun x10A x10n x10c => vI .i64 (σ 11) fun x11 => vI .u64 (σ 14) fun x14 => law12_HandleOnce.p21 (law12_HandleOnce.l1 K k1) K x1A x1n x1c x5A x5n x5c x8 x10A x10n x10c x11 x14 w) ?_ ?_
                                    ·
                                      exact sh_sound _ _ _ _ (Eq.mp (by kernel_rfl) h)
                                    · intro σ w h
                                      obtain ⟨x1A, x1n, x1c, e1, h⟩ := vS_elim h
                                      obtain ⟨x5A, x5n, x5c, e5, h⟩ := vS_elim h
                                      obtain ⟨x8, e8, h⟩ := vP_elim h
                                      obtain ⟨x10A, x10n, x10c, e10, h⟩ := vS_elim h
                                      obtain ⟨x11, e11, h⟩ := vI_elim h
                                      obtain ⟨x14, e14, h⟩ := vI_elim h
                                      refine J.sub ?_ (((((((Sub.base _).upd e1).upd e5).upd e8).upd e10).upd e11).upd e14)
                                      clear e1 e5 e8 e10 e11 e14
                                      refine J_seq (fun σ w => vS (σ 1) fun x1A x1n x1c => vS (σ 5) fun x5A x5n x5c => vP (σ 8) fun x8 => vS (σ 10) fun x10A x10n x10c => vI .i64 (σ 11) fun x11 => vI .u64 (σ 14) fun x14 => vI .i64 (σ 16) fun x16 => law12_HandleOnce.p22 (law12_HandleOnce.l1 K k1) K x1A x1n x1c x5A x5n x5c x8 x10A x10n x10c x11 x14 x16 w) ?_ ?_
                                      ·
                                        exact sh_sound _ _ _ _ (Eq.mp (by kernel_rfl) h)
                                      · intro σ w h
                                        obtain ⟨x1A, x1n, x1c, e1, h⟩ := vS_elim h
                                        obtain ⟨x5A, x5n, x5c, e5, h⟩ := vS_elim h
                                        obtain ⟨x8, e8, h⟩ := vP_elim h
                                        obtain ⟨x10A, x10n, x10c, e10, h⟩ := vS_elim h
                                        obtain ⟨x11, e11, h⟩ := vI_elim h
                                        obtain ⟨x14, e14, h⟩ := vI_elim h
                                        obtain ⟨x16, e16, h⟩ := vI_elim h
                                        refine J.sub ?_ ((((((((Sub.base _).upd e1).upd e5).upd e8).upd e10).upd e11).upd e14).upd e16)
                                        clear e1 e5 e8 e10 e11 e14 e16
                                        refine J_seq (fun σ w => vS (σ 1) fun x1A x1n x1c => vS (σ 5) fun x5A x5n x5c => vP (σ 8) fun x8 => vS (σ 10) fun x10A x10n x10c => vI .i64 (σ 11) fun x11 => vI .u64 (σ 14) fun x14 => law12_HandleOnce.p24 (law12_HandleOnce.l1 K k1) K x1A x1n x1c x5A x5n x5c x8 x10A x10n x10c x11 x14 w) ?_ ?_
                                        ·
                                          refine J_seq (fun σ w => vS (σ 1) fun x1A x1n x1c => vS (σ 5) fun x5A x5n x5c => vP (σ 8) fun x8 => vS (σ 10) fun x10A x10n x10c => vI .i64 (σ 11) fun x11 => vI .u64 (σ 14) fun x14 => vB (σ 136) fun x136 => law12_HandleOnce.p23 (law12_HandleOnce.l1 K k1) K x1A x1n x1c x5A x5n x5c x8 x10A x10n x10c x11 x14 x136 w) ?_ ?_
                                          ·
                                            exact sh_sound _ _ _ _ (Eq.mp (by kernel_rfl) h)
                                          · intro σ w h
                                            obtain ⟨x1A, x1n, x1c, e1, h⟩ := vS_elim h
                                            obtain ⟨x5A, x5n, x5c, e5, h⟩ := vS_elim h
                                            obtain ⟨x8, e8, h⟩ := vP_elim h
                                            obtain ⟨x10A, x10n, x10c, e10, h⟩ := vS_elim h
                                            obtain ⟨x11, e11, h⟩ := vI_elim h
                                            obtain ⟨x14, e14, h⟩ := vI_elim h
                                            obtain ⟨x136, e136, h⟩ := vB_elim h
                                            refine J.sub ?_ ((((((((Sub.base _).upd e1).upd e5).upd e8).upd e10).upd e11).upd e14).upd e136)
                                            clear e1 e5 e8 e10 e11 e14 e136
                                            exact sh_sound _ _ _ _ (Eq.mp (by kernel_rfl) h)
                                        · intro σ w h
                                          obtain ⟨x1A, x1n, x1c, e1, h⟩ := vS_elim h
                                          obtain ⟨x5A, x5n, x5c, e5, h⟩ := vS_elim h
                                          obtain ⟨x8, e8, h⟩ := vP_elim h
                                          obtain ⟨x10A, x10n, x10c, e10, h⟩ := vS_elim h
                                          obtain ⟨x11, e11, h⟩ := vI_elim h
                                          obtain ⟨x14, e14, h⟩ := vI_elim h
                                          refine J.sub ?_ (((((((Sub.base _).upd e1).upd e5).upd e8).upd e10).upd e11).upd e14)
                                          clear e1 e5 e8 e10 e11 e14
                                          refine J_seq (fun σ w => vS (σ 1) fun x1A x1n x1c => vS (σ 5) fun x5A x5n x5c => vP (σ 8) fun x8 => vS (σ 10) fun x10A x10n x10c => vI .i64 (σ 11) fun x11 => vI .u64 (σ 14) fun x14 => law12_HandleOnce.p26 (law12_HandleOnce.l1 K k1) K x1A x1n x1c x5A x5n x5c x8 x10A x10n x10c x11 x14 w) ?_ ?_
                                          ·
                                            refine J_seq (fun σ w => vS (σ 1) fun x1A x1n x1c => vS (σ 5) fun x5A x5n x5c => vP (σ 8) fun x8 => vS (σ 10) fun x10A x10n x10c => vI .i64 (σ 11) fun x11 => vI .u64 (σ 14) fun x14 => vS (σ 137) fun x137A x137n x137c => vI .i64 (σ 138) fun x138 => vI .i64 (σ 139) fun x139 => law12_HandleOnce.p25 (law12_HandleOnce.l1 K k1) K x1A x1n x1c x5A x5n x5c x8 x10A x10n x10c x11 x14 x137A x137n x137c x138 x139 w) ?_ ?_
                                            ·
                                              exact sh_sound _ _ _ _ (Eq.mp (by kernel_rfl) h)
                                            · intro σ w h
                                              obtain ⟨x1A, x1n, x1c, e1, h⟩ := vS_elim h
                                              obtain ⟨x5A, x5n, x5c, e5, h⟩ := vS_elim h
                                              obtain ⟨x8, e8, h⟩ := vP_elim h
                                              obtain ⟨x10A, x10n, x10c, e10, h⟩ := vS_elim h
                                              obtain ⟨x11, e11, h⟩ := vI_elim h
                                              obtain ⟨x14, e14, h⟩ := vI_elim h
                                              obtain ⟨x137A, x137n, x137c, e137, h⟩ := vS_elim h
                                              obtain ⟨x138, e138, h⟩ := vI_elim h
                                              obtain ⟨x139, e139, h⟩ := vI_elim h
                                              refine J.sub ?_ ((((((((((Sub.base _).upd e1).upd e5).upd e8).upd e10).upd e11).upd e14).upd e137).upd e138).upd e139)
                                              clear e1 e5 e8 e10 e11 e14 e137 e138 e139
                                              refine J_block ?_
                                              refine J_loop (fun k σ w => vS (σ 1) fun x1A x1n x1c => vS (σ 5) fun x5A x5n x5c => vP (σ 8) fun x8 => vS (σ 10) fun x10A x10n x10c => vI .i64 (σ 11) fun x11 => vI .u64 (σ 14) fun x14 => vS (σ 137) fun x137A x137n x137c => vI .i64 (σ 138) fun x138 => vI .i64 (σ 139) fun x139 => law12_HandleOnce.l2 (law12_HandleOnce.l1 K k1) K k x1A x1n x1c x5A x5n x5c x8 x10A x10n x10c x11 x14 x137A x137n x137c x138 x139 w) (Eq.mp (by kernel_rfl) h) ?_ ?_
                                              · intro σ w h
                                                obtain ⟨x1A, x1n, x1c, e1, h⟩ := vS_elim h
                                                obtain ⟨x5A, x5n, x5c, e5, h⟩ := vS_elim h
                                                obtain ⟨x8, e8, h⟩ := vP_elim h
                                                obtain ⟨x10A, x10n, x10c, e10, h⟩ := vS_elim h
                                                obtain ⟨x11, e11, h⟩ := vI_elim h
                                                obtain ⟨x14, e14, h⟩ := vI_elim h
                                                obtain ⟨x137A, x137n, x137c, e137, h⟩ := vS_elim h
                                                obtain ⟨x138, e138, h⟩ := vI_elim h
                                                obtain ⟨x139, e139, h⟩ := vI_elim h
                                                exact h
                                              · intro k2 σ w h
                                                obtain ⟨x1A, x1n, x1c, e1, h⟩ := vS_elim h
                                                obtain ⟨x5A, x5n, x5c, e5, h⟩ := vS_elim h
                                                obtain ⟨x8, e8, h⟩ := vP_elim h
                                                obtain ⟨x10A, x10n, x10c, e10, h⟩ := vS_elim h
                                                obtain ⟨x11, e11, h⟩ := vI_elim h
                                                obtain ⟨x14, e14, h⟩ := vI_elim h
                                                obtain ⟨x137A, x137n, x137c, e137, h⟩ := vS_elim h
                                                obtain ⟨x138, e138, h⟩ := vI_elim h
                                                obtain ⟨x139, e139, h⟩ := vI_elim h
                                                refine J.sub ?_ ((((((((((Sub.base _).upd e1).upd e5).upd e8).upd e10).upd e11).upd e14).upd e137).upd e138).upd e139)
                                                clear e1 e5 e8 e10 e11 e14 e137 e138 e139
                                                exact sh_sound _ _ _ _ (Eq.mp (by kernel_rfl) h)
                                          · intro σ w h
                                            obtain ⟨x1A, x1n, x1c, e1, h⟩ := vS_elim h
                                            obtain ⟨x5A, x5n, x5c, e5, h⟩ := vS_elim h
                                            obtain ⟨x8, e8, h⟩ := vP_elim h
                                            obtain ⟨x10A, x10n, x10c, e10, h⟩ := vS_elim h
                                            obtain ⟨x11, e11, h⟩ := vI_elim h
                                            obtain ⟨x14, e14, h⟩ := vI_elim h
                                            refine J.sub ?_ (((((((Sub.base _).upd e1).upd e5).upd e8).upd e10).upd e11).upd e14)
                                            clear e1 e5 e8 e10 e11 e14
                                            exact sh_sound _ _ _ _ (Eq.mp (by kernel_rfl) h)
                          · intro σ w h
                            obtain ⟨x1A, x1n, x1c, e1, h⟩ := vS_elim h
                            obtain ⟨x5A, x5n, x5c, e5, h⟩ := vS_elim h
                            obtain ⟨x8, e8, h⟩ := vP_elim h
                            obtain ⟨x10A, x10n, x10c, e10, h⟩ := vS_elim h
                            obtain ⟨x11, e11, h⟩ := vI_elim h
                            refine J.sub ?_ ((((((Sub.base _).upd e1).upd e5).upd e8).upd e10).upd e11)
                            clear e1 e5 e8 e10 e11
                            exact sh_sound _ _ _ _ (Eq.mp (by kernel_rfl) h)
                  · intro σ w h
                    refine J.sub ?_ (Sub.base _)
                    exact sh_sound _ _ _ _ (Eq.mp (by kernel_rfl) h)

/-! ### hayloft/hayloftlaw12.HandleStale: function 5 -/
abbrev law12_HandleStale.p6 (L0 : Option Addr → Nat → Nat → Option Addr → Nat → Nat → Option Addr → Int → World → Prop) (K : Value → World → Prop) (x1A : Option Addr) (x1n : Nat) (x1c : Nat) (x2A : Option Addr) (x2n : Nat) (x2c : Nat) (x7 : Option Addr) (x9 : Int) (w : World) : Prop :=
  CallsE Try.prog 17 #[.pointer x7, .int .i64 x9, .int .i64 x9] w (fun v8 w9 => ∃ (n10 : Int) (n11 : Int), v8 = .tuple #[.int .u64 n10, .int .i64 n11] ∧ L0 x1A x1n x1c x2A x2n x2c x7 (IntKind.wrap .i64 (x9 + (1 : Int))) w9)
abbrev law12_HandleStale.p21 (L1 : Option Addr → Nat → Nat → Option Addr → Int → Int → World → Prop) (K : Value → World → Prop) (x2A : Option Addr) (x2n : Nat) (x2c : Nat) (x7 : Option Addr) (x11 : Int) (x12 : Int) (w : World) : Prop :=
  L1 x2A x2n x2c x7 x11 (IntKind.wrap .i64 (x12 + (1 : Int))) w
abbrev law12_HandleStale.p20 (L1 : Option Addr → Nat → Nat → Option Addr → Int → Int → World → Prop) (K : Value → World → Prop) (x2A : Option Addr) (x2n : Nat) (x2c : Nat) (x7 : Option Addr) (x11 : Int) (x12 : Int) (x144 : Bool) (w : World) : Prop :=
  condP x144 (K (.bool false) w) (law12_HandleStale.p21 L1 K x2A x2n x2c x7 x11 x12 w)
abbrev law12_HandleStale.p19 (L1 : Option Addr → Nat → Nat → Option Addr → Int → Int → World → Prop) (K : Value → World → Prop) (x2A : Option Addr) (x2n : Nat) (x2c : Nat) (x7 : Option Addr) (x11 : Int) (x12 : Int) (x18 : Int) (w : World) : Prop :=
  condP (x18 != (12 : Int)) (law12_HandleStale.p20 L1 K x2A x2n x2c x7 x11 x12 true w) (CallsE Try.prog 20 #[.pointer x7, .int .u64 x11, .int .i64 1] w (fun v38 w39 => ∃ (n40 : Int), v38 = .int .i64 n40 ∧ condP (n40 != (12 : Int)) (law12_HandleStale.p20 L1 K x2A x2n x2c x7 x11 x12 true w39) (CallsE Try.prog 15 #[.pointer x7, .int .u64 x11] w39 (fun v41 w42 => ∃ (n43 : Int), v41 = .int .i64 n43 ∧ law12_HandleStale.p20 L1 K x2A x2n x2c x7 x11 x12 (n43 != (12 : Int)) w42))))
abbrev law12_HandleStale.p18 (L1 : Option Addr → Nat → Nat → Option Addr → Int → Int → World → Prop) (K : Value → World → Prop) (x2A : Option Addr) (x2n : Nat) (x2c : Nat) (x7 : Option Addr) (x11 : Int) (x12 : Int) (w : World) : Prop :=
  CallsE Try.prog 19 #[.pointer x7, .int .u64 x11] w (fun v33 w34 => ∃ (n35 : Int) (n36 : Int) (n37 : Int), v33 = .tuple #[.int .i64 n35, .int .i64 n36, .int .i64 n37] ∧ law12_HandleStale.p19 L1 K x2A x2n x2c x7 x11 x12 n37 w34)
abbrev law12_HandleStale.p17 (L1 : Option Addr → Nat → Nat → Option Addr → Int → Int → World → Prop) (K : Value → World → Prop) (x2A : Option Addr) (x2n : Nat) (x2c : Nat) (x7 : Option Addr) (x11 : Int) (x12 : Int) (x102 : Bool) (w : World) : Prop :=
  condP x102 (K (.bool false) w) (law12_HandleStale.p18 L1 K x2A x2n x2c x7 x11 x12 w)
abbrev law12_HandleStale.p16 (L1 : Option Addr → Nat → Nat → Option Addr → Int → Int → World → Prop) (K : Value → World → Prop) (x2A : Option Addr) (x2n : Nat) (x2c : Nat) (x7 : Option Addr) (x11 : Int) (x12 : Int) (x13 : Int) (x14 : Int) (w : World) : Prop :=
  condP (x14 == (0 : Int)) (law12_HandleStale.p17 L1 K x2A x2n x2c x7 x11 x12 (x13 == x11) w) (law12_HandleStale.p17 L1 K x2A x2n x2c x7 x11 x12 false w)
abbrev law12_HandleStale.p15 (L1 : Option Addr → Nat → Nat → Option Addr → Int → Int → World → Prop) (K : Value → World → Prop) (x2A : Option Addr) (x2n : Nat) (x2c : Nat) (x7 : Option Addr) (x11 : Int) (x12 : Int) (x80 : Bool) (w : World) : Prop :=
  condP x80 (∃ (S24 : Array Obj → Prop), S24 w.heap ∧ (0 ≤ x12 ∧ x12 < ((x2n : Nat) : Int)) ∧ ∃ (a25 : Addr), x2A = some a25 ∧ (0 ≤ x12 ∧ x12 < ((x2n : Nat) : Int)) ∧ ∃ (a26 : Addr), x2A = some a26 ∧ ∃ (n27 : Int), (∀ w' : World, S24 w'.heap → w'.cell? ((a25.add (x12.toNat * 5)).add 3) = some (.int .i64 n27)) ∧ ∃ (n28 : Int), (∀ w' : World, S24 w'.heap → w'.cell? ((a26.add (x12.toNat * 5)).add 4) = some (.int .i64 n28)) ∧ CallsE Try.prog 17 #[.pointer x7, .int .i64 n27, .int .i64 n28] w (fun v29 w30 => ∃ (n31 : Int) (n32 : Int), v29 = .tuple #[.int .u64 n31, .int .i64 n32] ∧ law12_HandleStale.p16 L1 K x2A x2n x2c x7 x11 x12 n31 n32 w30)) (CallsE Try.prog 14 #[.pointer x7] w (fun v44 w45 => ∃ (A46 : Option Addr) (m47 : Nat) (c48 : Nat), v44 = .slice A46 m47 c48 ∧ condP (decide ((0 : Int) < ((m47 : Nat) : Int))) ((0 ≤ x12 ∧ x12 < ((x2n : Nat) : Int)) ∧ ∃ (a49 : Addr), x2A = some a49 ∧ ∃ (n50 : Int), w45.cell? ((a49.add (x12.toNat * 5)).add 1) = some (.int .i64 n50) ∧ (IntKind.wrap .u64 ((m47 : Nat) : Int)) ≠ 0 ∧ (0 ≤ (IntKind.wrap .i64 (Int.tmod (IntKind.wrap .u64 n50) (IntKind.wrap .u64 ((m47 : Nat) : Int)))) ∧ (IntKind.wrap .i64 (Int.tmod (IntKind.wrap .u64 n50) (IntKind.wrap .u64 ((m47 : Nat) : Int)))) < ((m47 : Nat) : Int)) ∧ ∃ (a51 : Addr), A46 = some a51 ∧ ∃ (n52 : Int), w45.cell? (a51.add ((IntKind.wrap .i64 (Int.tmod (IntKind.wrap .u64 n50) (IntKind.wrap .u64 ((m47 : Nat) : Int)))).toNat)) = some (.int .u64 n52) ∧ CallsE Try.prog 15 #[.pointer x7, .int .u64 n52] w45 (fun v53 w54 => ∃ (n55 : Int), v53 = .int .i64 n55 ∧ law12_HandleStale.p18 L1 K x2A x2n x2c x7 x11 x12 w54)) (law12_HandleStale.p18 L1 K x2A x2n x2c x7 x11 x12 w45)))
abbrev law12_HandleStale.p14 (L1 : Option Addr → Nat → Nat → Option Addr → Int → Int → World → Prop) (K : Value → World → Prop) (x2A : Option Addr) (x2n : Nat) (x2c : Nat) (x7 : Option Addr) (x11 : Int) (x12 : Int) (w : World) : Prop :=
  (0 ≤ x12 ∧ x12 < ((x2n : Nat) : Int)) ∧ ∃ (a22 : Addr), x2A = some a22 ∧ ∃ (n23 : Int), w.cell? (a22.add (x12.toNat * 5)) = some (.int .i64 n23) ∧ law12_HandleStale.p15 L1 K x2A x2n x2c x7 x11 x12 (n23 == (1 : Int)) w
abbrev law12_HandleStale.p22 (K : Value → World → Prop) (w : World) : Prop :=
  K (.bool true) w
abbrev law12_HandleStale.p13 (L1 : Option Addr → Nat → Nat → Option Addr → Int → Int → World → Prop) (K : Value → World → Prop) (x2A : Option Addr) (x2n : Nat) (x2c : Nat) (x7 : Option Addr) (x11 : Int) (x12 : Int) (x72 : Bool) (w : World) : Prop :=
  condP x72 (law12_HandleStale.p14 L1 K x2A x2n x2c x7 x11 x12 w) (law12_HandleStale.p22 K w)
abbrev law12_HandleStale.b1 (L1 : Option Addr → Nat → Nat → Option Addr → Int → Int → World → Prop) (K : Value → World → Prop) (x2A : Option Addr) (x2n : Nat) (x2c : Nat) (x7 : Option Addr) (x11 : Int) (x12 : Int) (w : World) : Prop :=
  condP (decide (x12 < ((x2n : Nat) : Int))) (law12_HandleStale.p13 L1 K x2A x2n x2c x7 x11 x12 (decide (x12 < (100 : Int))) w) (law12_HandleStale.p13 L1 K x2A x2n x2c x7 x11 x12 false w)
def law12_HandleStale.l1 (K : Value → World → Prop) (k : Nat) : Option Addr → Nat → Nat → Option Addr → Int → Int → World → Prop :=
  Nat.rec (motive := fun _ => Option Addr → Nat → Nat → Option Addr → Int → Int → World → Prop) (fun _ _ _ _ _ _ _ => False) (fun _ ih => law12_HandleStale.b1 ih K) k
theorem law12_HandleStale.l1_succ (K : Value → World → Prop) (k : Nat) (x2A : Option Addr) (x2n : Nat) (x2c : Nat) (x7 : Option Addr) (x11 : Int) (x12 : Int) (w : World) : law12_HandleStale.l1 K (k + 1) x2A x2n x2c x7 x11 x12 w = law12_HandleStale.b1 (law12_HandleStale.l1 K k) K x2A x2n x2c x7 x11 x12 w := rfl
abbrev law12_HandleStale.p12 (K : Value → World → Prop) (x2A : Option Addr) (x2n : Nat) (x2c : Nat) (x7 : Option Addr) (x11 : Int) (x12 : Int) (w : World) : Prop :=
  ∃ k, law12_HandleStale.l1 K k x2A x2n x2c x7 x11 x12 w
abbrev law12_HandleStale.p11 (K : Value → World → Prop) (x2A : Option Addr) (x2n : Nat) (x2c : Nat) (x7 : Option Addr) (x11 : Int) (w : World) : Prop :=
  law12_HandleStale.p12 K x2A x2n x2c x7 x11 0 w
abbrev law12_HandleStale.p10 (K : Value → World → Prop) (x2A : Option Addr) (x2n : Nat) (x2c : Nat) (x7 : Option Addr) (x11 : Int) (w : World) : Prop :=
  CallsE Try.prog 15 #[.pointer x7, .int .u64 x11] w (fun v19 w20 => ∃ (n21 : Int), v19 = .int .i64 n21 ∧ condP (n21 != (0 : Int)) (K (.bool false) w20) (law12_HandleStale.p11 K x2A x2n x2c x7 x11 w20))
abbrev law12_HandleStale.p9 (K : Value → World → Prop) (x1A : Option Addr) (x1n : Nat) (x1c : Nat) (x2A : Option Addr) (x2n : Nat) (x2c : Nat) (x7 : Option Addr) (x10A : Option Addr) (x10n : Nat) (x10c : Nat) (w : World) : Prop :=
  ((x10n : Nat) : Int) ≠ 0 ∧ (0 ≤ (Int.tmod ((x1n : Nat) : Int) ((x10n : Nat) : Int)) ∧ (Int.tmod ((x1n : Nat) : Int) ((x10n : Nat) : Int)) < ((x10n : Nat) : Int)) ∧ ∃ (a17 : Addr), x10A = some a17 ∧ ∃ (n18 : Int), w.cell? (a17.add ((Int.tmod ((x1n : Nat) : Int) ((x10n : Nat) : Int)).toNat)) = some (.int .u64 n18) ∧ law12_HandleStale.p10 K x2A x2n x2c x7 n18 w
abbrev law12_HandleStale.p8 (K : Value → World → Prop) (x1A : Option Addr) (x1n : Nat) (x1c : Nat) (x2A : Option Addr) (x2n : Nat) (x2c : Nat) (x7 : Option Addr) (x10A : Option Addr) (x10n : Nat) (x10c : Nat) (w : World) : Prop :=
  condP (((x10n : Nat) : Int) == (0 : Int)) (K (.bool (((x1n : Nat) : Int) == (0 : Int))) w) (law12_HandleStale.p9 K x1A x1n x1c x2A x2n x2c x7 x10A x10n x10c w)
abbrev law12_HandleStale.p7 (K : Value → World → Prop) (x1A : Option Addr) (x1n : Nat) (x1c : Nat) (x2A : Option Addr) (x2n : Nat) (x2c : Nat) (x7 : Option Addr) (w : World) : Prop :=
  CallsE Try.prog 14 #[.pointer x7] w (fun v12 w13 => ∃ (A14 : Option Addr) (m15 : Nat) (c16 : Nat), v12 = .slice A14 m15 c16 ∧ law12_HandleStale.p8 K x1A x1n x1c x2A x2n x2c x7 A14 m15 c16 w13)
abbrev law12_HandleStale.p5 (L0 : Option Addr → Nat → Nat → Option Addr → Nat → Nat → Option Addr → Int → World → Prop) (K : Value → World → Prop) (x1A : Option Addr) (x1n : Nat) (x1c : Nat) (x2A : Option Addr) (x2n : Nat) (x2c : Nat) (x7 : Option Addr) (x9 : Int) (x38 : Bool) (w : World) : Prop :=
  condP x38 (law12_HandleStale.p6 L0 K x1A x1n x1c x2A x2n x2c x7 x9 w) (law12_HandleStale.p7 K x1A x1n x1c x2A x2n x2c x7 w)
abbrev law12_HandleStale.b0 (L0 : Option Addr → Nat → Nat → Option Addr → Nat → Nat → Option Addr → Int → World → Prop) (K : Value → World → Prop) (x1A : Option Addr) (x1n : Nat) (x1c : Nat) (x2A : Option Addr) (x2n : Nat) (x2c : Nat) (x7 : Option Addr) (x9 : Int) (w : World) : Prop :=
  condP (decide (x9 < ((x1n : Nat) : Int))) (law12_HandleStale.p5 L0 K x1A x1n x1c x2A x2n x2c x7 x9 (decide (x9 < (50 : Int))) w) (law12_HandleStale.p5 L0 K x1A x1n x1c x2A x2n x2c x7 x9 false w)
def law12_HandleStale.l0 (K : Value → World → Prop) (k : Nat) : Option Addr → Nat → Nat → Option Addr → Nat → Nat → Option Addr → Int → World → Prop :=
  Nat.rec (motive := fun _ => Option Addr → Nat → Nat → Option Addr → Nat → Nat → Option Addr → Int → World → Prop) (fun _ _ _ _ _ _ _ _ _ => False) (fun _ ih => law12_HandleStale.b0 ih K) k
theorem law12_HandleStale.l0_succ (K : Value → World → Prop) (k : Nat) (x1A : Option Addr) (x1n : Nat) (x1c : Nat) (x2A : Option Addr) (x2n : Nat) (x2c : Nat) (x7 : Option Addr) (x9 : Int) (w : World) : law12_HandleStale.l0 K (k + 1) x1A x1n x1c x2A x2n x2c x7 x9 w = law12_HandleStale.b0 (law12_HandleStale.l0 K k) K x1A x1n x1c x2A x2n x2c x7 x9 w := rfl
abbrev law12_HandleStale.p4 (K : Value → World → Prop) (x1A : Option Addr) (x1n : Nat) (x1c : Nat) (x2A : Option Addr) (x2n : Nat) (x2c : Nat) (x7 : Option Addr) (x9 : Int) (w : World) : Prop :=
  ∃ k, law12_HandleStale.l0 K k x1A x1n x1c x2A x2n x2c x7 x9 w
abbrev law12_HandleStale.p3 (K : Value → World → Prop) (x1A : Option Addr) (x1n : Nat) (x1c : Nat) (x2A : Option Addr) (x2n : Nat) (x2c : Nat) (x7 : Option Addr) (w : World) : Prop :=
  law12_HandleStale.p4 K x1A x1n x1c x2A x2n x2c x7 0 w
abbrev law12_HandleStale.p2 (K : Value → World → Prop) (x1A : Option Addr) (x1n : Nat) (x1c : Nat) (x2A : Option Addr) (x2n : Nat) (x2c : Nat) (x7 : Option Addr) (x8 : Int) (w : World) : Prop :=
  condP (x8 != (0 : Int)) (K (.bool false) w) (law12_HandleStale.p3 K x1A x1n x1c x2A x2n x2c x7 w)
abbrev law12_HandleStale.p1 (K : Value → World → Prop) (x0 : Int) (x1A : Option Addr) (x1n : Nat) (x1c : Nat) (x2A : Option Addr) (x2n : Nat) (x2c : Nat) (w : World) : Prop :=
  (20 : Int) ≠ 0 ∧ CallsE Try.prog 18 #[.int .i64 (IntKind.wrap .i64 ((1 : Int) + (IntKind.wrap .i64 (Int.tmod x0 20))))] w (fun v4 w5 => ∃ (p6 : Option Addr) (n7 : Int), v4 = .tuple #[.pointer p6, .int .i64 n7] ∧ law12_HandleStale.p2 K x1A x1n x1c x2A x2n x2c p6 n7 w5)
abbrev law12_HandleStale.p0 (K : Value → World → Prop) (x0 : Int) (x1A : Option Addr) (x1n : Nat) (x1c : Nat) (x2A : Option Addr) (x2n : Nat) (x2c : Nat) (w : World) : Prop :=
  CallsE Try.prog 10 #[] w (fun v1 w2 => ∃ (b3 : Bool), v1 = .bool b3 ∧ condP (!b3) (K (.bool false) w2) (law12_HandleStale.p1 K x0 x1A x1n x1c x2A x2n x2c w2))
abbrev law12_HandleStale.F (q0 : Int) (q1A : Option Addr) (q1n : Nat) (q1c : Nat) (q2A : Option Addr) (q2n : Nat) (q2c : Nat) (K : Value → World → Prop) (w : World) : Prop :=
  law12_HandleStale.p0 K q0 q1A q1n q1c q2A q2n q2c w
theorem law12_HandleStale.ok {q0 : Int} {q1A : Option Addr} {q1n : Nat} {q1c : Nat} {q2A : Option Addr} {q2n : Nat} {q2c : Nat} {K : Value → World → Prop} {w : World} (h : law12_HandleStale.F q0 q1A q1n q1c q2A q2n q2c K w) :
    CallsE Try.prog 5 #[.int .u8 q0, .slice q1A q1n q1c, .slice q2A q2n q2c] w K := by
  refine calls_of_J (n := 145) (rs := [.tmp 6]) Try.func5 rfl rfl rfl rfl ?_
  refine J_seq (fun σ w => vI .u8 (σ 0) fun x0 => vS (σ 1) fun x1A x1n x1c => vS (σ 2) fun x2A x2n x2c => law12_HandleStale.p0 K x0 x1A x1n x1c x2A x2n x2c w) ?_ ?_
  ·
    exact sh_sound _ _ _ _ (Eq.mp (by kernel_rfl) h)
  · intro σ w h
    obtain ⟨x0, e0, h⟩ := vI_elim h
    obtain ⟨x1A, x1n, x1c, e1, h⟩ := vS_elim h
    obtain ⟨x2A, x2n, x2c, e2, h⟩ := vS_elim h
    refine J.sub ?_ ((((Sub.base _).upd e0).upd e1).upd e2)
    clear e0 e1 e2
    refine J_seq (fun σ w => vI .u8 (σ 0) fun x0 => vS (σ 1) fun x1A x1n x1c => vS (σ 2) fun x2A x2n x2c => law12_HandleStale.p1 K x0 x1A x1n x1c x2A x2n x2c w) ?_ ?_
    ·
      exact sh_sound _ _ _ _ (Eq.mp (by kernel_rfl) h)
    · intro σ w h
      obtain ⟨x0, e0, h⟩ := vI_elim h
      obtain ⟨x1A, x1n, x1c, e1, h⟩ := vS_elim h
      obtain ⟨x2A, x2n, x2c, e2, h⟩ := vS_elim h
      refine J.sub ?_ ((((Sub.base _).upd e0).upd e1).upd e2)
      clear e0 e1 e2
      refine J_seq (fun σ w => vS (σ 1) fun x1A x1n x1c => vS (σ 2) fun x2A x2n x2c => vP (σ 7) fun x7 => vI .i64 (σ 8) fun x8 => law12_HandleStale.p2 K x1A x1n x1c x2A x2n x2c x7 x8 w) ?_ ?_
      ·
        exact sh_sound _ _ _ _ (Eq.mp (by kernel_rfl) h)
      · intro σ w h
        obtain ⟨x1A, x1n, x1c, e1, h⟩ := vS_elim h
        obtain ⟨x2A, x2n, x2c, e2, h⟩ := vS_elim h
        obtain ⟨x7, e7, h⟩ := vP_elim h
        obtain ⟨x8, e8, h⟩ := vI_elim h
        refine J.sub ?_ (((((Sub.base _).upd e1).upd e2).upd e7).upd e8)
        clear e1 e2 e7 e8
        refine J_seq (fun σ w => vS (σ 1) fun x1A x1n x1c => vS (σ 2) fun x2A x2n x2c => vP (σ 7) fun x7 => law12_HandleStale.p3 K x1A x1n x1c x2A x2n x2c x7 w) ?_ ?_
        ·
          exact sh_sound _ _ _ _ (Eq.mp (by kernel_rfl) h)
        · intro σ w h
          obtain ⟨x1A, x1n, x1c, e1, h⟩ := vS_elim h
          obtain ⟨x2A, x2n, x2c, e2, h⟩ := vS_elim h
          obtain ⟨x7, e7, h⟩ := vP_elim h
          refine J.sub ?_ ((((Sub.base _).upd e1).upd e2).upd e7)
          clear e1 e2 e7
          refine J_seq (fun σ w => vS (σ 1) fun x1A x1n x1c => vS (σ 2) fun x2A x2n x2c => vP (σ 7) fun x7 => law12_HandleStale.p7 K x1A x1n x1c x2A x2n x2c x7 w) ?_ ?_
          ·
            refine J_seq (fun σ w => vS (σ 1) fun x1A x1n x1c => vS (σ 2) fun x2A x2n x2c => vP (σ 7) fun x7 => vI .i64 (σ 9) fun x9 => law12_HandleStale.p4 K x1A x1n x1c x2A x2n x2c x7 x9 w) ?_ ?_
            ·
              exact sh_sound _ _ _ _ (Eq.mp (by kernel_rfl) h)
            · intro σ w h
              obtain ⟨x1A, x1n, x1c, e1, h⟩ := vS_elim h
              obtain ⟨x2A, x2n, x2c, e2, h⟩ := vS_elim h
              obtain ⟨x7, e7, h⟩ := vP_elim h
              obtain ⟨x9, e9, h⟩ := vI_elim h
              refine J.sub ?_ (((((Sub.base _).upd e1).upd e2).upd e7).upd e9)
              clear e1 e2 e7 e9
              refine J_block ?_
              refine J_loop (fun k σ w => vS (σ 1) fun x1A x1n x1c => vS (σ 2) fun x2A x2n x2c => vP (σ 7) fun x7 => vI .i64 (σ 9) fun x9 => law12_HandleStale.l0 K k x1A x1n x1c x2A x2n x2c x7 x9 w) (Eq.mp (by kernel_rfl) h) ?_ ?_
              · intro σ w h
                obtain ⟨x1A, x1n, x1c, e1, h⟩ := vS_elim h
                obtain ⟨x2A, x2n, x2c, e2, h⟩ := vS_elim h
                obtain ⟨x7, e7, h⟩ := vP_elim h
                obtain ⟨x9, e9, h⟩ := vI_elim h
                exact h
              · intro k0 σ w h
                obtain ⟨x1A, x1n, x1c, e1, h⟩ := vS_elim h
                obtain ⟨x2A, x2n, x2c, e2, h⟩ := vS_elim h
                obtain ⟨x7, e7, h⟩ := vP_elim h
                obtain ⟨x9, e9, h⟩ := vI_elim h
                refine J.sub ?_ (((((Sub.base _).upd e1).upd e2).upd e7).upd e9)
                clear e1 e2 e7 e9
                refine J_seq (fun σ w => vS (σ 1) fun x1A x1n x1c => vS (σ 2) fun x2A x2n x2c => vP (σ 7) fun x7 => vI .i64 (σ 9) fun x9 => law12_HandleStale.p6 (law12_HandleStale.l0 K k0) K x1A x1n x1c x2A x2n x2c x7 x9 w) ?_ ?_
                ·
                  refine J_seq (fun σ w => vS (σ 1) fun x1A x1n x1c => vS (σ 2) fun x2A x2n x2c => vP (σ 7) fun x7 => vI .i64 (σ 9) fun x9 => vB (σ 38) fun x38 => law12_HandleStale.p5 (law12_HandleStale.l0 K k0) K x1A x1n x1c x2A x2n x2c x7 x9 x38 w) ?_ ?_
                  ·
                    exact sh_sound _ _ _ _ (Eq.mp (by kernel_rfl) h)
                  · intro σ w h
                    obtain ⟨x1A, x1n, x1c, e1, h⟩ := vS_elim h
                    obtain ⟨x2A, x2n, x2c, e2, h⟩ := vS_elim h
                    obtain ⟨x7, e7, h⟩ := vP_elim h
                    obtain ⟨x9, e9, h⟩ := vI_elim h
                    obtain ⟨x38, e38, h⟩ := vB_elim h
                    refine J.sub ?_ ((((((Sub.base _).upd e1).upd e2).upd e7).upd e9).upd e38)
                    clear e1 e2 e7 e9 e38
                    exact sh_sound _ _ _ _ (Eq.mp (by kernel_rfl) h)
                · intro σ w h
                  obtain ⟨x1A, x1n, x1c, e1, h⟩ := vS_elim h
                  obtain ⟨x2A, x2n, x2c, e2, h⟩ := vS_elim h
                  obtain ⟨x7, e7, h⟩ := vP_elim h
                  obtain ⟨x9, e9, h⟩ := vI_elim h
                  refine J.sub ?_ (((((Sub.base _).upd e1).upd e2).upd e7).upd e9)
                  clear e1 e2 e7 e9
                  exact sh_sound _ _ _ _ (Eq.mp (by kernel_rfl) h)
          · intro σ w h
            obtain ⟨x1A, x1n, x1c, e1, h⟩ := vS_elim h
            obtain ⟨x2A, x2n, x2c, e2, h⟩ := vS_elim h
            obtain ⟨x7, e7, h⟩ := vP_elim h
            refine J.sub ?_ ((((Sub.base _).upd e1).upd e2).upd e7)
            clear e1 e2 e7
            refine J_seq (fun σ w => vS (σ 1) fun x1A x1n x1c => vS (σ 2) fun x2A x2n x2c => vP (σ 7) fun x7 => vS (σ 10) fun x10A x10n x10c => law12_HandleStale.p8 K x1A x1n x1c x2A x2n x2c x7 x10A x10n x10c w) ?_ ?_
            ·
              exact sh_sound _ _ _ _ (Eq.mp (by kernel_rfl) h)
            · intro σ w h
              obtain ⟨x1A, x1n, x1c, e1, h⟩ := vS_elim h
              obtain ⟨x2A, x2n, x2c, e2, h⟩ := vS_elim h
              obtain ⟨x7, e7, h⟩ := vP_elim h
              obtain ⟨x10A, x10n, x10c, e10, h⟩ := vS_elim h
              refine J.sub ?_ (((((Sub.base _).upd e1).upd e2).upd e7).upd e10)
              clear e1 e2 e7 e10
              refine J_seq (fun σ w => vS (σ 1) fun x1A x1n x1c => vS (σ 2) fun x2A x2n x2c => vP (σ 7) fun x7 => vS (σ 10) fun x10A x10n x10c => law12_HandleStale.p9 K x1A x1n x1c x2A x2n x2c x7 x10A x10n x10c w) ?_ ?_
              ·
                exact sh_sound _ _ _ _ (Eq.mp (by kernel_rfl) h)
              · intro σ w h
                obtain ⟨x1A, x1n, x1c, e1, h⟩ := vS_elim h
                obtain ⟨x2A, x2n, x2c, e2, h⟩ := vS_elim h
                obtain ⟨x7, e7, h⟩ := vP_elim h
                obtain ⟨x10A, x10n, x10c, e10, h⟩ := vS_elim h
                refine J.sub ?_ (((((Sub.base _).upd e1).upd e2).upd e7).upd e10)
                clear e1 e2 e7 e10
                refine J_seq (fun σ w => vS (σ 2) fun x2A x2n x2c => vP (σ 7) fun x7 => vI .u64 (σ 11) fun x11 => law12_HandleStale.p10 K x2A x2n x2c x7 x11 w) ?_ ?_
                ·
                  exact sh_sound _ _ _ _ (Eq.mp (by kernel_rfl) h)
                · intro σ w h
                  obtain ⟨x2A, x2n, x2c, e2, h⟩ := vS_elim h
                  obtain ⟨x7, e7, h⟩ := vP_elim h
                  obtain ⟨x11, e11, h⟩ := vI_elim h
                  refine J.sub ?_ ((((Sub.base _).upd e2).upd e7).upd e11)
                  clear e2 e7 e11
                  refine J_seq (fun σ w => vS (σ 2) fun x2A x2n x2c => vP (σ 7) fun x7 => vI .u64 (σ 11) fun x11 => law12_HandleStale.p11 K x2A x2n x2c x7 x11 w) ?_ ?_
                  ·
                    exact sh_sound _ _ _ _ (Eq.mp (by kernel_rfl) h)
                  · intro σ w h
                    obtain ⟨x2A, x2n, x2c, e2, h⟩ := vS_elim h
                    obtain ⟨x7, e7, h⟩ := vP_elim h
                    obtain ⟨x11, e11, h⟩ := vI_elim h
                    refine J.sub ?_ ((((Sub.base _).upd e2).upd e7).upd e11)
                    clear e2 e7 e11
                    refine J_seq (fun σ w => law12_HandleStale.p22 K w) ?_ ?_
                    ·
                      refine J_seq (fun σ w => vS (σ 2) fun x2A x2n x2c => vP (σ 7) fun x7 => vI .u64 (σ 11) fun x11 => vI .i64 (σ 12) fun x12 => law12_HandleStale.p12 K x2A x2n x2c x7 x11 x12 w) ?_ ?_
                      ·
                        exact sh_sound _ _ _ _ (Eq.mp (by kernel_rfl) h)
                      · intro σ w h
                        obtain ⟨x2A, x2n, x2c, e2, h⟩ := vS_elim h
                        obtain ⟨x7, e7, h⟩ := vP_elim h
                        obtain ⟨x11, e11, h⟩ := vI_elim h
                        obtain ⟨x12, e12, h⟩ := vI_elim h
                        refine J.sub ?_ (((((Sub.base _).upd e2).upd e7).upd e11).upd e12)
                        clear e2 e7 e11 e12
                        refine J_block ?_
                        refine J_loop (fun k σ w => vS (σ 2) fun x2A x2n x2c => vP (σ 7) fun x7 => vI .u64 (σ 11) fun x11 => vI .i64 (σ 12) fun x12 => law12_HandleStale.l1 K k x2A x2n x2c x7 x11 x12 w) (Eq.mp (by kernel_rfl) h) ?_ ?_
                        · intro σ w h
                          obtain ⟨x2A, x2n, x2c, e2, h⟩ := vS_elim h
                          obtain ⟨x7, e7, h⟩ := vP_elim h
                          obtain ⟨x11, e11, h⟩ := vI_elim h
                          obtain ⟨x12, e12, h⟩ := vI_elim h
                          exact h
                        · intro k1 σ w h
                          obtain ⟨x2A, x2n, x2c, e2, h⟩ := vS_elim h
                          obtain ⟨x7, e7, h⟩ := vP_elim h
                          obtain ⟨x11, e11, h⟩ := vI_elim h
                          obtain ⟨x12, e12, h⟩ := vI_elim h
                          refine J.sub ?_ (((((Sub.base _).upd e2).upd e7).upd e11).upd e12)
                          clear e2 e7 e11 e12
                          refine J_seq (fun σ w => vS (σ 2) fun x2A x2n x2c => vP (σ 7) fun x7 => vI .u64 (σ 11) fun x11 => vI .i64 (σ 12) fun x12 => law12_HandleStale.p14 (law12_HandleStale.l1 K k1) K x2A x2n x2c x7 x11 x12 w) ?_ ?_
                          ·
                            refine J_seq (fun σ w => vS (σ 2) fun x2A x2n x2c => vP (σ 7) fun x7 => vI .u64 (σ 11) fun x11 => vI .i64 (σ 12) fun x12 => vB (σ 72) fun x72 => law12_HandleStale.p13 (law12_HandleStale.l1 K k1) K x2A x2n x2c x7 x11 x12 x72 w) ?_ ?_
                            ·
                              exact sh_sound _ _ _ _ (Eq.mp (by kernel_rfl) h)
                            · intro σ w h
                              obtain ⟨x2A, x2n, x2c, e2, h⟩ := vS_elim h
                              obtain ⟨x7, e7, h⟩ := vP_elim h
                              obtain ⟨x11, e11, h⟩ := vI_elim h
                              obtain ⟨x12, e12, h⟩ := vI_elim h
                              obtain ⟨x72, e72, h⟩ := vB_elim h
                              refine J.sub ?_ ((((((Sub.base _).upd e2).upd e7).upd e11).upd e12).upd e72)
                              clear e2 e7 e11 e12 e72
                              exact sh_sound _ _ _ _ (Eq.mp (by kernel_rfl) h)
                          · intro σ w h
                            obtain ⟨x2A, x2n, x2c, e2, h⟩ := vS_elim h
                            obtain ⟨x7, e7, h⟩ := vP_elim h
                            obtain ⟨x11, e11, h⟩ := vI_elim h
                            obtain ⟨x12, e12, h⟩ := vI_elim h
                            refine J.sub ?_ (((((Sub.base _).upd e2).upd e7).upd e11).upd e12)
                            clear e2 e7 e11 e12
                            refine J_seq (fun σ w => vS (σ 2) fun x2A x2n x2c => vP (σ 7) fun x7 => vI .u64 (σ 11) fun x11 => vI .i64 (σ 12) fun x12 => law12_HandleStale.p21 (law12_HandleStale.l1 K k1) K x2A x2n x2c x7 x11 x12 w) ?_ ?_
                            ·
                              refine J_block ?_
                              refine J_seq (fun σ w => vS (σ 2) fun x2A x2n x2c => vP (σ 7) fun x7 => vI .u64 (σ 11) fun x11 => vI .i64 (σ 12) fun x12 => law12_HandleStale.p18 (law12_HandleStale.l1 K k1) K x2A x2n x2c x7 x11 x12 w) ?_ ?_
                              ·
                                refine J_seq (fun σ w => vS (σ 2) fun x2A x2n x2c => vP (σ 7) fun x7 => vI .u64 (σ 11) fun x11 => vI .i64 (σ 12) fun x12 => vB (σ 80) fun x80 => law12_HandleStale.p15 (law12_HandleStale.l1 K k1) K x2A x2n x2c x7 x11 x12 x80 w) ?_ ?_
                                ·
                                  exact sh_sound _ _ _ _ (Eq.mp (by kernel_rfl) h)
                                · intro σ w h
                                  obtain ⟨x2A, x2n, x2c, e2, h⟩ := vS_elim h
                                  obtain ⟨x7, e7, h⟩ := vP_elim h
                                  obtain ⟨x11, e11, h⟩ := vI_elim h
                                  obtain ⟨x12, e12, h⟩ := vI_elim h
                                  obtain ⟨x80, e80, h⟩ := vB_elim h
                                  refine J.sub ?_ ((((((Sub.base _).upd e2).upd e7).upd e11).upd e12).upd e80)
                                  clear e2 e7 e11 e12 e80
                                  refine J_cond' h (by kernel_rfl) (fun h => ?_) (fun h => ?_)
                                  ·
                                    refine J_seq (fun σ w => vS (σ 2) fun x2A x2n x2c => vP (σ 7) fun x7 => vI .u64 (σ 11) fun x11 => vI .i64 (σ 12) fun x12 => vI .u64 (σ 13) fun x13 => vI .i64 (σ 14) fun x14 => law12_HandleStale.p16 (law12_HandleStale.l1 K k1) K x2A x2n x2c x7 x11 x12 x13 x14 w) ?_ ?_
                                    ·
                                      exact J_held [11] [(0, 0), (1, 0), (2, 0), (3, 0), (4, 0), (6, 0), (7, 0), (8, 0), (9, 0), (5, 1), (10, 1), (11, 3), (12, 0), (13, 0), (14, 0), (15, 0), (16, 0)] (by kernel_rfl) (Eq.mp (by kernel_rfl) h)
                                    · intro σ w h
                                      obtain ⟨x2A, x2n, x2c, e2, h⟩ := vS_elim h
                                      obtain ⟨x7, e7, h⟩ := vP_elim h
                                      obtain ⟨x11, e11, h⟩ := vI_elim h
                                      obtain ⟨x12, e12, h⟩ := vI_elim h
                                      obtain ⟨x13, e13, h⟩ := vI_elim h
                                      obtain ⟨x14, e14, h⟩ := vI_elim h
                                      refine J.sub ?_ (((((((Sub.base _).upd e2).upd e7).upd e11).upd e12).upd e13).upd e14)
                                      clear e2 e7 e11 e12 e13 e14
                                      refine J_seq (fun σ w => vS (σ 2) fun x2A x2n x2c => vP (σ 7) fun x7 => vI .u64 (σ 11) fun x11 => vI .i64 (σ 12) fun x12 => vB (σ 102) fun x102 => law12_HandleStale.p17 (law12_HandleStale.l1 K k1) K x2A x2n x2c x7 x11 x12 x102 w) ?_ ?_
                                      ·
                                        exact sh_sound _ _ _ _ (Eq.mp (by kernel_rfl) h)
                                      · intro σ w h
                                        obtain ⟨x2A, x2n, x2c, e2, h⟩ := vS_elim h
                                        obtain ⟨x7, e7, h⟩ := vP_elim h
                                        obtain ⟨x11, e11, h⟩ := vI_elim h
                                        obtain ⟨x12, e12, h⟩ := vI_elim h
                                        obtain ⟨x102, e102, h⟩ := vB_elim h
                                        refine J.sub ?_ ((((((Sub.base _).upd e2).upd e7).upd e11).upd e12).upd e102)
                                        clear e2 e7 e11 e12 e102
                                        exact sh_sound _ _ _ _ (Eq.mp (by kernel_rfl) h)
                                  ·
                                    exact sh_sound _ _ _ _ (Eq.mp (by kernel_rfl) h)
                              · intro σ w h
                                obtain ⟨x2A, x2n, x2c, e2, h⟩ := vS_elim h
                                obtain ⟨x7, e7, h⟩ := vP_elim h
                                obtain ⟨x11, e11, h⟩ := vI_elim h
                                obtain ⟨x12, e12, h⟩ := vI_elim h
                                refine J.sub ?_ (((((Sub.base _).upd e2).upd e7).upd e11).upd e12)
                                clear e2 e7 e11 e12
                                refine J_seq (fun σ w => vS (σ 2) fun x2A x2n x2c => vP (σ 7) fun x7 => vI .u64 (σ 11) fun x11 => vI .i64 (σ 12) fun x12 => vI .i64 (σ 18) fun x18 => law12_HandleStale.p19 (law12_HandleStale.l1 K k1) K x2A x2n x2c x7 x11 x12 x18 w) ?_ ?_
                                ·
                                  exact sh_sound _ _ _ _ (Eq.mp (by kernel_rfl) h)
                                · intro σ w h
                                  obtain ⟨x2A, x2n, x2c, e2, h⟩ := vS_elim h
                                  obtain ⟨x7, e7, h⟩ := vP_elim h
                                  obtain ⟨x11, e11, h⟩ := vI_elim h
                                  obtain ⟨x12, e12, h⟩ := vI_elim h
                                  obtain ⟨x18, e18, h⟩ := vI_elim h
                                  refine J.sub ?_ ((((((Sub.base _).upd e2).upd e7).upd e11).upd e12).upd e18)
                                  clear e2 e7 e11 e12 e18
                                  refine J_seq (fun σ w => vS (σ 2) fun x2A x2n x2c => vP (σ 7) fun x7 => vI .u64 (σ 11) fun x11 => vI .i64 (σ 12) fun x12 => vB (σ 144) fun x144 => law12_HandleStale.p20 (law12_HandleStale.l1 K k1) K x2A x2n x2c x7 x11 x12 x144 w) ?_ ?_
                                  ·
                                    exact sh_sound _ _ _ _ (Eq.mp (by kernel_rfl) h)
                                  · intro σ w h
                                    obtain ⟨x2A, x2n, x2c, e2, h⟩ := vS_elim h
                                    obtain ⟨x7, e7, h⟩ := vP_elim h
                                    obtain ⟨x11, e11, h⟩ := vI_elim h
                                    obtain ⟨x12, e12, h⟩ := vI_elim h
                                    obtain ⟨x144, e144, h⟩ := vB_elim h
                                    refine J.sub ?_ ((((((Sub.base _).upd e2).upd e7).upd e11).upd e12).upd e144)
                                    clear e2 e7 e11 e12 e144
                                    exact sh_sound _ _ _ _ (Eq.mp (by kernel_rfl) h)
                            · intro σ w h
                              obtain ⟨x2A, x2n, x2c, e2, h⟩ := vS_elim h
                              obtain ⟨x7, e7, h⟩ := vP_elim h
                              obtain ⟨x11, e11, h⟩ := vI_elim h
                              obtain ⟨x12, e12, h⟩ := vI_elim h
                              refine J.sub ?_ (((((Sub.base _).upd e2).upd e7).upd e11).upd e12)
                              clear e2 e7 e11 e12
                              exact sh_sound _ _ _ _ (Eq.mp (by kernel_rfl) h)
                    · intro σ w h
                      refine J.sub ?_ (Sub.base _)
                      exact sh_sound _ _ _ _ (Eq.mp (by kernel_rfl) h)

/-! ### hayloft/hayloftlaw12.HandleForged: function 6 -/
abbrev law12_HandleForged.p9 (L0 : Option Addr → Nat → Nat → Int → Option Addr → Option Addr → Addr → Int → World → Prop) (K : Value → World → Prop) (x1A : Option Addr) (x1n : Nat) (x1c : Nat) (x2 : Int) (x8 : Option Addr) (x10 : Option Addr) (x12 : Addr) (x13 : Int) (w : World) : Prop :=
  (0 ≤ x13 ∧ x13 < ((x1n : Nat) : Int)) ∧ ∃ (a13 : Addr), x1A = some a13 ∧ ∃ (n14 : Int), w.cell? (a13.add (x13.toNat * 5)) = some (.int .i64 n14) ∧ ∃ (n15 : Int), w.cell? ((a13.add (x13.toNat * 5)).add 1) = some (.int .i64 n15) ∧ ∃ (n16 : Int), w.cell? ((a13.add (x13.toNat * 5)).add 2) = some (.int .u64 n16) ∧ ∃ (n17 : Int), w.cell? ((a13.add (x13.toNat * 5)).add 3) = some (.int .i64 n17) ∧ ∃ (n18 : Int), w.cell? ((a13.add (x13.toNat * 5)).add 4) = some (.int .i64 n18) ∧ CallsE Try.prog 22 #[.pointer x8, .pointer x10, .agg #[.int .i64 n14, .int .i64 n15, .int .u64 n16, .int .i64 n17, .int .i64 n18], .pointer (some x12)] w (fun v19 w20 => ∃ (b21 : Bool), v19 = .bool b21 ∧ condP (!b21) (K (.bool false) w20) (L0 x1A x1n x1c x2 x8 x10 x12 (IntKind.wrap .i64 (x13 + (1 : Int))) w20))
abbrev law12_HandleForged.p15 (L1 : Int → Option Addr → Bool → Option Addr → Nat → Nat → Int → Int → World → Prop) (K : Value → World → Prop) (x2 : Int) (x8 : Option Addr) (x14 : Bool) (x57A : Option Addr) (x57n : Nat) (x57c : Nat) (x58 : Int) (x59 : Int) (w : World) : Prop :=
  L1 x2 x8 x14 x57A x57n x57c x58 (IntKind.wrap .i64 (x59 + (1 : Int))) w
abbrev law12_HandleForged.p14 (L1 : Int → Option Addr → Bool → Option Addr → Nat → Nat → Int → Int → World → Prop) (K : Value → World → Prop) (x2 : Int) (x8 : Option Addr) (x14 : Bool) (x57A : Option Addr) (x57n : Nat) (x57c : Nat) (x58 : Int) (x59 : Int) (w : World) : Prop :=
  (0 ≤ x59 ∧ x59 < ((x57n : Nat) : Int)) ∧ ∃ (a27 : Addr), x57A = some a27 ∧ ∃ (n28 : Int), w.cell? (a27.add x59.toNat) = some (.int .u64 n28) ∧ condP x14 (law12_HandleForged.p15 L1 K x2 x8 true x57A x57n x57c x58 x59 w) (law12_HandleForged.p15 L1 K x2 x8 (n28 == x2) x57A x57n x57c x58 x59 w)
abbrev law12_HandleForged.p18 (K : Value → World → Prop) (x6 : Bool) (w : World) : Prop :=
  K (.bool x6) w
abbrev law12_HandleForged.p17 (K : Value → World → Prop) (x14 : Bool) (x19 : Int) (w : World) : Prop :=
  condP ((x19 == (0 : Int)) == x14) (law12_HandleForged.p18 K ((x19 == (12 : Int)) == (!x14)) w) (law12_HandleForged.p18 K false w)
abbrev law12_HandleForged.p16 (K : Value → World → Prop) (x2 : Int) (x8 : Option Addr) (x14 : Bool) (w : World) : Prop :=
  CallsE Try.prog 19 #[.pointer x8, .int .u64 x2] w (fun v29 w30 => ∃ (n31 : Int) (n32 : Int) (n33 : Int), v29 = .tuple #[.int .i64 n31, .int .i64 n32, .int .i64 n33] ∧ law12_HandleForged.p17 K x14 n33 w30)
abbrev law12_HandleForged.p13 (L1 : Int → Option Addr → Bool → Option Addr → Nat → Nat → Int → Int → World → Prop) (K : Value → World → Prop) (x2 : Int) (x8 : Option Addr) (x14 : Bool) (x57A : Option Addr) (x57n : Nat) (x57c : Nat) (x58 : Int) (x59 : Int) (x60 : Bool) (w : World) : Prop :=
  condP x60 (law12_HandleForged.p14 L1 K x2 x8 x14 x57A x57n x57c x58 x59 w) (law12_HandleForged.p16 K x2 x8 x14 w)
abbrev law12_HandleForged.b1 (L1 : Int → Option Addr → Bool → Option Addr → Nat → Nat → Int → Int → World → Prop) (K : Value → World → Prop) (x2 : Int) (x8 : Option Addr) (x14 : Bool) (x57A : Option Addr) (x57n : Nat) (x57c : Nat) (x58 : Int) (x59 : Int) (w : World) : Prop :=
  law12_HandleForged.p13 L1 K x2 x8 x14 x57A x57n x57c x58 x59 (decide (x59 < x58)) w
def law12_HandleForged.l1 (K : Value → World → Prop) (k : Nat) : Int → Option Addr → Bool → Option Addr → Nat → Nat → Int → Int → World → Prop :=
  Nat.rec (motive := fun _ => Int → Option Addr → Bool → Option Addr → Nat → Nat → Int → Int → World → Prop) (fun _ _ _ _ _ _ _ _ _ => False) (fun _ ih => law12_HandleForged.b1 ih K) k
theorem law12_HandleForged.l1_succ (K : Value → World → Prop) (k : Nat) (x2 : Int) (x8 : Option Addr) (x14 : Bool) (x57A : Option Addr) (x57n : Nat) (x57c : Nat) (x58 : Int) (x59 : Int) (w : World) : law12_HandleForged.l1 K (k + 1) x2 x8 x14 x57A x57n x57c x58 x59 w = law12_HandleForged.b1 (law12_HandleForged.l1 K k) K x2 x8 x14 x57A x57n x57c x58 x59 w := rfl
abbrev law12_HandleForged.p12 (K : Value → World → Prop) (x2 : Int) (x8 : Option Addr) (x14 : Bool) (x57A : Option Addr) (x57n : Nat) (x57c : Nat) (x58 : Int) (x59 : Int) (w : World) : Prop :=
  ∃ k, law12_HandleForged.l1 K k x2 x8 x14 x57A x57n x57c x58 x59 w
abbrev law12_HandleForged.p11 (K : Value → World → Prop) (x2 : Int) (x8 : Option Addr) (x14 : Bool) (w : World) : Prop :=
  CallsE Try.prog 14 #[.pointer x8] w (fun v22 w23 => ∃ (A24 : Option Addr) (m25 : Nat) (c26 : Nat), v22 = .slice A24 m25 c26 ∧ law12_HandleForged.p12 K x2 x8 x14 A24 m25 c26 ((m25 : Nat) : Int) 0 w23)
abbrev law12_HandleForged.p10 (K : Value → World → Prop) (x2 : Int) (x8 : Option Addr) (w : World) : Prop :=
  law12_HandleForged.p11 K x2 x8 false w
abbrev law12_HandleForged.p8 (L0 : Option Addr → Nat → Nat → Int → Option Addr → Option Addr → Addr → Int → World → Prop) (K : Value → World → Prop) (x1A : Option Addr) (x1n : Nat) (x1c : Nat) (x2 : Int) (x8 : Option Addr) (x10 : Option Addr) (x12 : Addr) (x13 : Int) (x45 : Bool) (w : World) : Prop :=
  condP x45 (law12_HandleForged.p9 L0 K x1A x1n x1c x2 x8 x10 x12 x13 w) (law12_HandleForged.p10 K x2 x8 w)
abbrev law12_HandleForged.b0 (L0 : Option Addr → Nat → Nat → Int → Option Addr → Option Addr → Addr → Int → World → Prop) (K : Value → World → Prop) (x1A : Option Addr) (x1n : Nat) (x1c : Nat) (x2 : Int) (x8 : Option Addr) (x10 : Option Addr) (x12 : Addr) (x13 : Int) (w : World) : Prop :=
  condP (decide (x13 < ((x1n : Nat) : Int))) (law12_HandleForged.p8 L0 K x1A x1n x1c x2 x8 x10 x12 x13 (decide (x13 < (100 : Int))) w) (law12_HandleForged.p8 L0 K x1A x1n x1c x2 x8 x10 x12 x13 false w)
def law12_HandleForged.l0 (K : Value → World → Prop) (k : Nat) : Option Addr → Nat → Nat → Int → Option Addr → Option Addr → Addr → Int → World → Prop :=
  Nat.rec (motive := fun _ => Option Addr → Nat → Nat → Int → Option Addr → Option Addr → Addr → Int → World → Prop) (fun _ _ _ _ _ _ _ _ _ => False) (fun _ ih => law12_HandleForged.b0 ih K) k
theorem law12_HandleForged.l0_succ (K : Value → World → Prop) (k : Nat) (x1A : Option Addr) (x1n : Nat) (x1c : Nat) (x2 : Int) (x8 : Option Addr) (x10 : Option Addr) (x12 : Addr) (x13 : Int) (w : World) : law12_HandleForged.l0 K (k + 1) x1A x1n x1c x2 x8 x10 x12 x13 w = law12_HandleForged.b0 (law12_HandleForged.l0 K k) K x1A x1n x1c x2 x8 x10 x12 x13 w := rfl
abbrev law12_HandleForged.p7 (K : Value → World → Prop) (x1A : Option Addr) (x1n : Nat) (x1c : Nat) (x2 : Int) (x8 : Option Addr) (x10 : Option Addr) (x12 : Addr) (x13 : Int) (w : World) : Prop :=
  ∃ k, law12_HandleForged.l0 K k x1A x1n x1c x2 x8 x10 x12 x13 w
abbrev law12_HandleForged.p6 (K : Value → World → Prop) (x1A : Option Addr) (x1n : Nat) (x1c : Nat) (x2 : Int) (x8 : Option Addr) (x10 : Option Addr) (x12 : Addr) (w : World) : Prop :=
  law12_HandleForged.p7 K x1A x1n x1c x2 x8 x10 x12 0 w
abbrev law12_HandleForged.p5 (K : Value → World → Prop) (x1A : Option Addr) (x1n : Nat) (x1c : Nat) (x2 : Int) (x8 : Option Addr) (x10 : Option Addr) (w : World) : Prop :=
  wlet (w.alloc (.cells #[.slice none 0 0] 38)) fun w12 => law12_HandleForged.p6 K x1A x1n x1c x2 x8 x10 (⟨w.heap.size, 0, none⟩) w12
abbrev law12_HandleForged.p4 (K : Value → World → Prop) (x1A : Option Addr) (x1n : Nat) (x1c : Nat) (x2 : Int) (x8 : Option Addr) (x9 : Int) (x10 : Option Addr) (w : World) : Prop :=
  condP (x9 != (0 : Int)) (K (.bool false) w) (law12_HandleForged.p5 K x1A x1n x1c x2 x8 x10 w)
abbrev law12_HandleForged.p3 (K : Value → World → Prop) (x1A : Option Addr) (x1n : Nat) (x1c : Nat) (x2 : Int) (x7 : Int) (x8 : Option Addr) (x9 : Int) (w : World) : Prop :=
  CallsE Try.prog 21 #[.int .i64 x7, .slice none 0 0] w (fun v8 w9 => ∃ (p10 : Option Addr) (n11 : Int), v8 = .tuple #[.pointer p10, .int .i64 n11] ∧ law12_HandleForged.p4 K x1A x1n x1c x2 x8 x9 p10 w9)
abbrev law12_HandleForged.p2 (K : Value → World → Prop) (x1A : Option Addr) (x1n : Nat) (x1c : Nat) (x2 : Int) (x7 : Int) (w : World) : Prop :=
  CallsE Try.prog 18 #[.int .i64 x7] w (fun v4 w5 => ∃ (p6 : Option Addr) (n7 : Int), v4 = .tuple #[.pointer p6, .int .i64 n7] ∧ law12_HandleForged.p3 K x1A x1n x1c x2 x7 p6 n7 w5)
abbrev law12_HandleForged.p1 (K : Value → World → Prop) (x0 : Int) (x1A : Option Addr) (x1n : Nat) (x1c : Nat) (x2 : Int) (w : World) : Prop :=
  (100 : Int) ≠ 0 ∧ law12_HandleForged.p2 K x1A x1n x1c x2 (IntKind.wrap .i64 ((1 : Int) + (IntKind.wrap .i64 (Int.tmod x0 100)))) w
abbrev law12_HandleForged.p0 (K : Value → World → Prop) (x0 : Int) (x1A : Option Addr) (x1n : Nat) (x1c : Nat) (x2 : Int) (w : World) : Prop :=
  CallsE Try.prog 10 #[] w (fun v1 w2 => ∃ (b3 : Bool), v1 = .bool b3 ∧ condP (!b3) (K (.bool false) w2) (law12_HandleForged.p1 K x0 x1A x1n x1c x2 w2))
abbrev law12_HandleForged.F (q0 : Int) (q1A : Option Addr) (q1n : Nat) (q1c : Nat) (q2 : Int) (K : Value → World → Prop) (w : World) : Prop :=
  law12_HandleForged.p0 K q0 q1A q1n q1c q2 w
theorem law12_HandleForged.ok {q0 : Int} {q1A : Option Addr} {q1n : Nat} {q1c : Nat} {q2 : Int} {K : Value → World → Prop} {w : World} (h : law12_HandleForged.F q0 q1A q1n q1c q2 K w) :
    CallsE Try.prog 6 #[.int .u8 q0, .slice q1A q1n q1c, .int .u64 q2] w K := by
  refine calls_of_J (n := 88) (rs := [.tmp 6]) Try.func6 rfl rfl rfl rfl ?_
  refine J_seq (fun σ w => vI .u8 (σ 0) fun x0 => vS (σ 1) fun x1A x1n x1c => vI .u64 (σ 2) fun x2 => law12_HandleForged.p0 K x0 x1A x1n x1c x2 w) ?_ ?_
  ·
    exact sh_sound _ _ _ _ (Eq.mp (by kernel_rfl) h)
  · intro σ w h
    obtain ⟨x0, e0, h⟩ := vI_elim h
    obtain ⟨x1A, x1n, x1c, e1, h⟩ := vS_elim h
    obtain ⟨x2, e2, h⟩ := vI_elim h
    refine J.sub ?_ ((((Sub.base _).upd e0).upd e1).upd e2)
    clear e0 e1 e2
    refine J_seq (fun σ w => vI .u8 (σ 0) fun x0 => vS (σ 1) fun x1A x1n x1c => vI .u64 (σ 2) fun x2 => law12_HandleForged.p1 K x0 x1A x1n x1c x2 w) ?_ ?_
    ·
      exact sh_sound _ _ _ _ (Eq.mp (by kernel_rfl) h)
    · intro σ w h
      obtain ⟨x0, e0, h⟩ := vI_elim h
      obtain ⟨x1A, x1n, x1c, e1, h⟩ := vS_elim h
      obtain ⟨x2, e2, h⟩ := vI_elim h
      refine J.sub ?_ ((((Sub.base _).upd e0).upd e1).upd e2)
      clear e0 e1 e2
      refine J_seq (fun σ w => vS (σ 1) fun x1A x1n x1c => vI .u64 (σ 2) fun x2 => vI .i64 (σ 7) fun x7 => law12_HandleForged.p2 K x1A x1n x1c x2 x7 w) ?_ ?_
      ·
        exact sh_sound _ _ _ _ (Eq.mp (by kernel_rfl) h)
      · intro σ w h
        obtain ⟨x1A, x1n, x1c, e1, h⟩ := vS_elim h
        obtain ⟨x2, e2, h⟩ := vI_elim h
        obtain ⟨x7, e7, h⟩ := vI_elim h
        refine J.sub ?_ ((((Sub.base _).upd e1).upd e2).upd e7)
        clear e1 e2 e7
        refine J_seq (fun σ w => vS (σ 1) fun x1A x1n x1c => vI .u64 (σ 2) fun x2 => vI .i64 (σ 7) fun x7 => vP (σ 8) fun x8 => vI .i64 (σ 9) fun x9 => law12_HandleForged.p3 K x1A x1n x1c x2 x7 x8 x9 w) ?_ ?_
        ·
          exact sh_sound _ _ _ _ (Eq.mp (by kernel_rfl) h)
        · intro σ w h
          obtain ⟨x1A, x1n, x1c, e1, h⟩ := vS_elim h
          obtain ⟨x2, e2, h⟩ := vI_elim h
          obtain ⟨x7, e7, h⟩ := vI_elim h
          obtain ⟨x8, e8, h⟩ := vP_elim h
          obtain ⟨x9, e9, h⟩ := vI_elim h
          refine J.sub ?_ ((((((Sub.base _).upd e1).upd e2).upd e7).upd e8).upd e9)
          clear e1 e2 e7 e8 e9
          refine J_seq (fun σ w => vS (σ 1) fun x1A x1n x1c => vI .u64 (σ 2) fun x2 => vP (σ 8) fun x8 => vI .i64 (σ 9) fun x9 => vP (σ 10) fun x10 => law12_HandleForged.p4 K x1A x1n x1c x2 x8 x9 x10 w) ?_ ?_
          ·
            exact sh_sound _ _ _ _ (Eq.mp (by kernel_rfl) h)
          · intro σ w h
            obtain ⟨x1A, x1n, x1c, e1, h⟩ := vS_elim h
            obtain ⟨x2, e2, h⟩ := vI_elim h
            obtain ⟨x8, e8, h⟩ := vP_elim h
            obtain ⟨x9, e9, h⟩ := vI_elim h
            obtain ⟨x10, e10, h⟩ := vP_elim h
            refine J.sub ?_ ((((((Sub.base _).upd e1).upd e2).upd e8).upd e9).upd e10)
            clear e1 e2 e8 e9 e10
            refine J_seq (fun σ w => vS (σ 1) fun x1A x1n x1c => vI .u64 (σ 2) fun x2 => vP (σ 8) fun x8 => vP (σ 10) fun x10 => law12_HandleForged.p5 K x1A x1n x1c x2 x8 x10 w) ?_ ?_
            ·
              exact sh_sound _ _ _ _ (Eq.mp (by kernel_rfl) h)
            · intro σ w h
              obtain ⟨x1A, x1n, x1c, e1, h⟩ := vS_elim h
              obtain ⟨x2, e2, h⟩ := vI_elim h
              obtain ⟨x8, e8, h⟩ := vP_elim h
              obtain ⟨x10, e10, h⟩ := vP_elim h
              refine J.sub ?_ (((((Sub.base _).upd e1).upd e2).upd e8).upd e10)
              clear e1 e2 e8 e10
              refine J_seq (fun σ w => vS (σ 1) fun x1A x1n x1c => vI .u64 (σ 2) fun x2 => vP (σ 8) fun x8 => vP (σ 10) fun x10 => vPa (σ 12) fun x12 => law12_HandleForged.p6 K x1A x1n x1c x2 x8 x10 x12 w) ?_ ?_
              ·
                exact sh_sound _ _ _ _ (Eq.mp (by kernel_rfl) h)
              · intro σ w h
                obtain ⟨x1A, x1n, x1c, e1, h⟩ := vS_elim h
                obtain ⟨x2, e2, h⟩ := vI_elim h
                obtain ⟨x8, e8, h⟩ := vP_elim h
                obtain ⟨x10, e10, h⟩ := vP_elim h
                obtain ⟨x12, e12, h⟩ := vPa_elim h
                refine J.sub ?_ ((((((Sub.base _).upd e1).upd e2).upd e8).upd e10).upd e12)
                clear e1 e2 e8 e10 e12
                refine J_seq (fun σ w => vI .u64 (σ 2) fun x2 => vP (σ 8) fun x8 => law12_HandleForged.p10 K x2 x8 w) ?_ ?_
                ·
                  refine J_seq (fun σ w => vS (σ 1) fun x1A x1n x1c => vI .u64 (σ 2) fun x2 => vP (σ 8) fun x8 => vP (σ 10) fun x10 => vPa (σ 12) fun x12 => vI .i64 (σ 13) fun x13 => law12_HandleForged.p7 K x1A x1n x1c x2 x8 x10 x12 x13 w) ?_ ?_
                  ·
                    exact sh_sound _ _ _ _ (Eq.mp (by kernel_rfl) h)
                  · intro σ w h
                    obtain ⟨x1A, x1n, x1c, e1, h⟩ := vS_elim h
                    obtain ⟨x2, e2, h⟩ := vI_elim h
                    obtain ⟨x8, e8, h⟩ := vP_elim h
                    obtain ⟨x10, e10, h⟩ := vP_elim h
                    obtain ⟨x12, e12, h⟩ := vPa_elim h
                    obtain ⟨x13, e13, h⟩ := vI_elim h
                    refine J.sub ?_ (((((((Sub.base _).upd e1).upd e2).upd e8).upd e10).upd e12).upd e13)
                    clear e1 e2 e8 e10 e12 e13
                    refine J_block ?_
                    refine J_loop (fun k σ w => vS (σ 1) fun x1A x1n x1c => vI .u64 (σ 2) fun x2 => vP (σ 8) fun x8 => vP (σ 10) fun x10 => vPa (σ 12) fun x12 => vI .i64 (σ 13) fun x13 => law12_HandleForged.l0 K k x1A x1n x1c x2 x8 x10 x12 x13 w) (Eq.mp (by kernel_rfl) h) ?_ ?_
                    · intro σ w h
                      obtain ⟨x1A, x1n, x1c, e1, h⟩ := vS_elim h
                      obtain ⟨x2, e2, h⟩ := vI_elim h
                      obtain ⟨x8, e8, h⟩ := vP_elim h
                      obtain ⟨x10, e10, h⟩ := vP_elim h
                      obtain ⟨x12, e12, h⟩ := vPa_elim h
                      obtain ⟨x13, e13, h⟩ := vI_elim h
                      exact h
                    · intro k0 σ w h
                      obtain ⟨x1A, x1n, x1c, e1, h⟩ := vS_elim h
                      obtain ⟨x2, e2, h⟩ := vI_elim h
                      obtain ⟨x8, e8, h⟩ := vP_elim h
                      obtain ⟨x10, e10, h⟩ := vP_elim h
                      obtain ⟨x12, e12, h⟩ := vPa_elim h
                      obtain ⟨x13, e13, h⟩ := vI_elim h
                      refine J.sub ?_ (((((((Sub.base _).upd e1).upd e2).upd e8).upd e10).upd e12).upd e13)
                      clear e1 e2 e8 e10 e12 e13
                      refine J_seq (fun σ w => vS (σ 1) fun x1A x1n x1c => vI .u64 (σ 2) fun x2 => vP (σ 8) fun x8 => vP (σ 10) fun x10 => vPa (σ 12) fun x12 => vI .i64 (σ 13) fun x13 => law12_HandleForged.p9 (law12_HandleForged.l0 K k0) K x1A x1n x1c x2 x8 x10 x12 x13 w) ?_ ?_
                      ·
                        refine J_seq (fun σ w => vS (σ 1) fun x1A x1n x1c => vI .u64 (σ 2) fun x2 => vP (σ 8) fun x8 => vP (σ 10) fun x10 => vPa (σ 12) fun x12 => vI .i64 (σ 13) fun x13 => vB (σ 45) fun x45 => law12_HandleForged.p8 (law12_HandleForged.l0 K k0) K x1A x1n x1c x2 x8 x10 x12 x13 x45 w) ?_ ?_
                        ·
                          exact sh_sound _ _ _ _ (Eq.mp (by kernel_rfl) h)
                        · intro σ w h
                          obtain ⟨x1A, x1n, x1c, e1, h⟩ := vS_elim h
                          obtain ⟨x2, e2, h⟩ := vI_elim h
                          obtain ⟨x8, e8, h⟩ := vP_elim h
                          obtain ⟨x10, e10, h⟩ := vP_elim h
                          obtain ⟨x12, e12, h⟩ := vPa_elim h
                          obtain ⟨x13, e13, h⟩ := vI_elim h
                          obtain ⟨x45, e45, h⟩ := vB_elim h
                          refine J.sub ?_ ((((((((Sub.base _).upd e1).upd e2).upd e8).upd e10).upd e12).upd e13).upd e45)
                          clear e1 e2 e8 e10 e12 e13 e45
                          exact sh_sound _ _ _ _ (Eq.mp (by kernel_rfl) h)
                      · intro σ w h
                        obtain ⟨x1A, x1n, x1c, e1, h⟩ := vS_elim h
                        obtain ⟨x2, e2, h⟩ := vI_elim h
                        obtain ⟨x8, e8, h⟩ := vP_elim h
                        obtain ⟨x10, e10, h⟩ := vP_elim h
                        obtain ⟨x12, e12, h⟩ := vPa_elim h
                        obtain ⟨x13, e13, h⟩ := vI_elim h
                        refine J.sub ?_ (((((((Sub.base _).upd e1).upd e2).upd e8).upd e10).upd e12).upd e13)
                        clear e1 e2 e8 e10 e12 e13
                        exact sh_sound _ _ _ _ (Eq.mp (by kernel_rfl) h)
                · intro σ w h
                  obtain ⟨x2, e2, h⟩ := vI_elim h
                  obtain ⟨x8, e8, h⟩ := vP_elim h
                  refine J.sub ?_ (((Sub.base _).upd e2).upd e8)
                  clear e2 e8
                  refine J_seq (fun σ w => vI .u64 (σ 2) fun x2 => vP (σ 8) fun x8 => vB (σ 14) fun x14 => law12_HandleForged.p11 K x2 x8 x14 w) ?_ ?_
                  ·
                    exact sh_sound _ _ _ _ (Eq.mp (by kernel_rfl) h)
                  · intro σ w h
                    obtain ⟨x2, e2, h⟩ := vI_elim h
                    obtain ⟨x8, e8, h⟩ := vP_elim h
                    obtain ⟨x14, e14, h⟩ := vB_elim h
                    refine J.sub ?_ ((((Sub.base _).upd e2).upd e8).upd e14)
                    clear e2 e8 e14
                    refine J_seq (fun σ w => vI .u64 (σ 2) fun x2 => vP (σ 8) fun x8 => vB (σ 14) fun x14 => law12_HandleForged.p16 K x2 x8 x14 w) ?_ ?_
                    ·
                      refine J_seq (fun σ w => vI .u64 (σ 2) fun x2 => vP (σ 8) fun x8 => vB (σ 14) fun x14 => vS (σ 57) fun x57A x57n x57c => vI .i64 (σ 58) fun x58 => vI .i64 (σ 59) fun x59 => law12_HandleForged.p12 K x2 x8 x14 x57A x57n x57c x58 x59 w) ?_ ?_
                      ·
                        exact sh_sound _ _ _ _ (Eq.mp (by kernel_rfl) h)
                      · intro σ w h
                        obtain ⟨x2, e2, h⟩ := vI_elim h
                        obtain ⟨x8, e8, h⟩ := vP_elim h
                        obtain ⟨x14, e14, h⟩ := vB_elim h
                        obtain ⟨x57A, x57n, x57c, e57, h⟩ := vS_elim h
                        obtain ⟨x58, e58, h⟩ := vI_elim h
                        obtain ⟨x59, e59, h⟩ := vI_elim h
                        refine J.sub ?_ (((((((Sub.base _).upd e2).upd e8).upd e14).upd e57).upd e58).upd e59)
                        clear e2 e8 e14 e57 e58 e59
                        refine J_block ?_
                        refine J_loop (fun k σ w => vI .u64 (σ 2) fun x2 => vP (σ 8) fun x8 => vB (σ 14) fun x14 => vS (σ 57) fun x57A x57n x57c => vI .i64 (σ 58) fun x58 => vI .i64 (σ 59) fun x59 => law12_HandleForged.l1 K k x2 x8 x14 x57A x57n x57c x58 x59 w) (Eq.mp (by kernel_rfl) h) ?_ ?_
                        · intro σ w h
                          obtain ⟨x2, e2, h⟩ := vI_elim h
                          obtain ⟨x8, e8, h⟩ := vP_elim h
                          obtain ⟨x14, e14, h⟩ := vB_elim h
                          obtain ⟨x57A, x57n, x57c, e57, h⟩ := vS_elim h
                          obtain ⟨x58, e58, h⟩ := vI_elim h
                          obtain ⟨x59, e59, h⟩ := vI_elim h
                          exact h
                        · intro k1 σ w h
                          obtain ⟨x2, e2, h⟩ := vI_elim h
                          obtain ⟨x8, e8, h⟩ := vP_elim h
                          obtain ⟨x14, e14, h⟩ := vB_elim h
                          obtain ⟨x57A, x57n, x57c, e57, h⟩ := vS_elim h
                          obtain ⟨x58, e58, h⟩ := vI_elim h
                          obtain ⟨x59, e59, h⟩ := vI_elim h
                          refine J.sub ?_ (((((((Sub.base _).upd e2).upd e8).upd e14).upd e57).upd e58).upd e59)
                          clear e2 e8 e14 e57 e58 e59
                          refine J_seq (fun σ w => vI .u64 (σ 2) fun x2 => vP (σ 8) fun x8 => vB (σ 14) fun x14 => vS (σ 57) fun x57A x57n x57c => vI .i64 (σ 58) fun x58 => vI .i64 (σ 59) fun x59 => vB (σ 60) fun x60 => law12_HandleForged.p13 (law12_HandleForged.l1 K k1) K x2 x8 x14 x57A x57n x57c x58 x59 x60 w) ?_ ?_
                          ·
                            exact sh_sound _ _ _ _ (Eq.mp (by kernel_rfl) h)
                          · intro σ w h
                            obtain ⟨x2, e2, h⟩ := vI_elim h
                            obtain ⟨x8, e8, h⟩ := vP_elim h
                            obtain ⟨x14, e14, h⟩ := vB_elim h
                            obtain ⟨x57A, x57n, x57c, e57, h⟩ := vS_elim h
                            obtain ⟨x58, e58, h⟩ := vI_elim h
                            obtain ⟨x59, e59, h⟩ := vI_elim h
                            obtain ⟨x60, e60, h⟩ := vB_elim h
                            refine J.sub ?_ ((((((((Sub.base _).upd e2).upd e8).upd e14).upd e57).upd e58).upd e59).upd e60)
                            clear e2 e8 e14 e57 e58 e59 e60
                            refine J_seq (fun σ w => vI .u64 (σ 2) fun x2 => vP (σ 8) fun x8 => vB (σ 14) fun x14 => vS (σ 57) fun x57A x57n x57c => vI .i64 (σ 58) fun x58 => vI .i64 (σ 59) fun x59 => law12_HandleForged.p14 (law12_HandleForged.l1 K k1) K x2 x8 x14 x57A x57n x57c x58 x59 w) ?_ ?_
                            ·
                              exact sh_sound _ _ _ _ (Eq.mp (by kernel_rfl) h)
                            · intro σ w h
                              obtain ⟨x2, e2, h⟩ := vI_elim h
                              obtain ⟨x8, e8, h⟩ := vP_elim h
                              obtain ⟨x14, e14, h⟩ := vB_elim h
                              obtain ⟨x57A, x57n, x57c, e57, h⟩ := vS_elim h
                              obtain ⟨x58, e58, h⟩ := vI_elim h
                              obtain ⟨x59, e59, h⟩ := vI_elim h
                              refine J.sub ?_ (((((((Sub.base _).upd e2).upd e8).upd e14).upd e57).upd e58).upd e59)
                              clear e2 e8 e14 e57 e58 e59
                              refine J_seq (fun σ w => vI .u64 (σ 2) fun x2 => vP (σ 8) fun x8 => vB (σ 14) fun x14 => vS (σ 57) fun x57A x57n x57c => vI .i64 (σ 58) fun x58 => vI .i64 (σ 59) fun x59 => law12_HandleForged.p15 (law12_HandleForged.l1 K k1) K x2 x8 x14 x57A x57n x57c x58 x59 w) ?_ ?_
                              ·
                                exact sh_sound _ _ _ _ (Eq.mp (by kernel_rfl) h)
                              · intro σ w h
                                obtain ⟨x2, e2, h⟩ := vI_elim h
                                obtain ⟨x8, e8, h⟩ := vP_elim h
                                obtain ⟨x14, e14, h⟩ := vB_elim h
                                obtain ⟨x57A, x57n, x57c, e57, h⟩ := vS_elim h
                                obtain ⟨x58, e58, h⟩ := vI_elim h
                                obtain ⟨x59, e59, h⟩ := vI_elim h
                                refine J.sub ?_ (((((((Sub.base _).upd e2).upd e8).upd e14).upd e57).upd e58).upd e59)
                                clear e2 e8 e14 e57 e58 e59
                                exact sh_sound _ _ _ _ (Eq.mp (by kernel_rfl) h)
                    · intro σ w h
                      obtain ⟨x2, e2, h⟩ := vI_elim h
                      obtain ⟨x8, e8, h⟩ := vP_elim h
                      obtain ⟨x14, e14, h⟩ := vB_elim h
                      refine J.sub ?_ ((((Sub.base _).upd e2).upd e8).upd e14)
                      clear e2 e8 e14
                      refine J_seq (fun σ w => vB (σ 14) fun x14 => vI .i64 (σ 19) fun x19 => law12_HandleForged.p17 K x14 x19 w) ?_ ?_
                      ·
                        exact sh_sound _ _ _ _ (Eq.mp (by kernel_rfl) h)
                      · intro σ w h
                        obtain ⟨x14, e14, h⟩ := vB_elim h
                        obtain ⟨x19, e19, h⟩ := vI_elim h
                        refine J.sub ?_ (((Sub.base _).upd e14).upd e19)
                        clear e14 e19
                        refine J_seq (fun σ w => vB (σ 6) fun x6 => law12_HandleForged.p18 K x6 w) ?_ ?_
                        ·
                          exact sh_sound _ _ _ _ (Eq.mp (by kernel_rfl) h)
                        · intro σ w h
                          obtain ⟨x6, e6, h⟩ := vB_elim h
                          refine J.sub ?_ ((Sub.base _).upd e6)
                          clear e6
                          exact sh_sound _ _ _ _ (Eq.mp (by kernel_rfl) h)

/-! ### hayloft/hayloftlaw12.HandlePlays: function 7 -/
abbrev law12_HandlePlays.p10 (L0 : Option Addr → Nat → Nat → Option Addr → Option Addr → Addr → Int → World → Prop) (K : Value → World → Prop) (x1A : Option Addr) (x1n : Nat) (x1c : Nat) (x6 : Option Addr) (x8 : Option Addr) (x10 : Addr) (x11 : Int) (w : World) : Prop :=
  (0 ≤ x11 ∧ x11 < ((x1n : Nat) : Int)) ∧ ∃ (a13 : Addr), x1A = some a13 ∧ ∃ (n14 : Int), w.cell? (a13.add (x11.toNat * 5)) = some (.int .i64 n14) ∧ ∃ (n15 : Int), w.cell? ((a13.add (x11.toNat * 5)).add 1) = some (.int .i64 n15) ∧ ∃ (n16 : Int), w.cell? ((a13.add (x11.toNat * 5)).add 2) = some (.int .u64 n16) ∧ ∃ (n17 : Int), w.cell? ((a13.add (x11.toNat * 5)).add 3) = some (.int .i64 n17) ∧ ∃ (n18 : Int), w.cell? ((a13.add (x11.toNat * 5)).add 4) = some (.int .i64 n18) ∧ CallsE Try.prog 22 #[.pointer x6, .pointer x8, .agg #[.int .i64 n14, .int .i64 n15, .int .u64 n16, .int .i64 n17, .int .i64 n18], .pointer (some x10)] w (fun v19 w20 => ∃ (b21 : Bool), v19 = .bool b21 ∧ condP (!b21) (K (.bool false) w20) (L0 x1A x1n x1c x6 x8 x10 (IntKind.wrap .i64 (x11 + (1 : Int))) w20))
abbrev law12_HandlePlays.p11 (K : Value → World → Prop) (x6 : Option Addr) (x8 : Option Addr) (w : World) : Prop :=
  CallsE Try.prog 23 #[.pointer x6, .pointer x8] w (fun v22 w23 => ∃ (b24 : Bool), v22 = .bool b24 ∧ K (.bool b24) w23)
abbrev law12_HandlePlays.p9 (L0 : Option Addr → Nat → Nat → Option Addr → Option Addr → Addr → Int → World → Prop) (K : Value → World → Prop) (x1A : Option Addr) (x1n : Nat) (x1c : Nat) (x6 : Option Addr) (x8 : Option Addr) (x10 : Addr) (x11 : Int) (x41 : Bool) (w : World) : Prop :=
  condP x41 (law12_HandlePlays.p10 L0 K x1A x1n x1c x6 x8 x10 x11 w) (law12_HandlePlays.p11 K x6 x8 w)
abbrev law12_HandlePlays.b0 (L0 : Option Addr → Nat → Nat → Option Addr → Option Addr → Addr → Int → World → Prop) (K : Value → World → Prop) (x1A : Option Addr) (x1n : Nat) (x1c : Nat) (x6 : Option Addr) (x8 : Option Addr) (x10 : Addr) (x11 : Int) (w : World) : Prop :=
  condP (decide (x11 < ((x1n : Nat) : Int))) (law12_HandlePlays.p9 L0 K x1A x1n x1c x6 x8 x10 x11 (decide (x11 < (200 : Int))) w) (law12_HandlePlays.p9 L0 K x1A x1n x1c x6 x8 x10 x11 false w)
def law12_HandlePlays.l0 (K : Value → World → Prop) (k : Nat) : Option Addr → Nat → Nat → Option Addr → Option Addr → Addr → Int → World → Prop :=
  Nat.rec (motive := fun _ => Option Addr → Nat → Nat → Option Addr → Option Addr → Addr → Int → World → Prop) (fun _ _ _ _ _ _ _ _ => False) (fun _ ih => law12_HandlePlays.b0 ih K) k
theorem law12_HandlePlays.l0_succ (K : Value → World → Prop) (k : Nat) (x1A : Option Addr) (x1n : Nat) (x1c : Nat) (x6 : Option Addr) (x8 : Option Addr) (x10 : Addr) (x11 : Int) (w : World) : law12_HandlePlays.l0 K (k + 1) x1A x1n x1c x6 x8 x10 x11 w = law12_HandlePlays.b0 (law12_HandlePlays.l0 K k) K x1A x1n x1c x6 x8 x10 x11 w := rfl
abbrev law12_HandlePlays.p8 (K : Value → World → Prop) (x1A : Option Addr) (x1n : Nat) (x1c : Nat) (x6 : Option Addr) (x8 : Option Addr) (x10 : Addr) (x11 : Int) (w : World) : Prop :=
  ∃ k, law12_HandlePlays.l0 K k x1A x1n x1c x6 x8 x10 x11 w
abbrev law12_HandlePlays.p7 (K : Value → World → Prop) (x1A : Option Addr) (x1n : Nat) (x1c : Nat) (x6 : Option Addr) (x8 : Option Addr) (x10 : Addr) (w : World) : Prop :=
  law12_HandlePlays.p8 K x1A x1n x1c x6 x8 x10 0 w
abbrev law12_HandlePlays.p6 (K : Value → World → Prop) (x1A : Option Addr) (x1n : Nat) (x1c : Nat) (x6 : Option Addr) (x8 : Option Addr) (w : World) : Prop :=
  wlet (w.alloc (.cells #[.slice none 0 0] 38)) fun w12 => law12_HandlePlays.p7 K x1A x1n x1c x6 x8 (⟨w.heap.size, 0, none⟩) w12
abbrev law12_HandlePlays.p5 (K : Value → World → Prop) (x1A : Option Addr) (x1n : Nat) (x1c : Nat) (x6 : Option Addr) (x8 : Option Addr) (x33 : Bool) (w : World) : Prop :=
  condP x33 (K (.bool false) w) (law12_HandlePlays.p6 K x1A x1n x1c x6 x8 w)
abbrev law12_HandlePlays.p4 (K : Value → World → Prop) (x1A : Option Addr) (x1n : Nat) (x1c : Nat) (x6 : Option Addr) (x7 : Int) (x8 : Option Addr) (w : World) : Prop :=
  condP (x7 != (0 : Int)) (law12_HandlePlays.p5 K x1A x1n x1c x6 x8 true w) (law12_HandlePlays.p5 K x1A x1n x1c x6 x8 x6.isNone w)
abbrev law12_HandlePlays.p3 (K : Value → World → Prop) (x1A : Option Addr) (x1n : Nat) (x1c : Nat) (x5 : Int) (x6 : Option Addr) (x7 : Int) (w : World) : Prop :=
  CallsE Try.prog 21 #[.int .i64 x5, .slice none 0 0] w (fun v8 w9 => ∃ (p10 : Option Addr) (n11 : Int), v8 = .tuple #[.pointer p10, .int .i64 n11] ∧ law12_HandlePlays.p4 K x1A x1n x1c x6 x7 p10 w9)
abbrev law12_HandlePlays.p2 (K : Value → World → Prop) (x1A : Option Addr) (x1n : Nat) (x1c : Nat) (x5 : Int) (w : World) : Prop :=
  CallsE Try.prog 18 #[.int .i64 x5] w (fun v4 w5 => ∃ (p6 : Option Addr) (n7 : Int), v4 = .tuple #[.pointer p6, .int .i64 n7] ∧ law12_HandlePlays.p3 K x1A x1n x1c x5 p6 n7 w5)
abbrev law12_HandlePlays.p1 (K : Value → World → Prop) (x0 : Int) (x1A : Option Addr) (x1n : Nat) (x1c : Nat) (w : World) : Prop :=
  (100 : Int) ≠ 0 ∧ law12_HandlePlays.p2 K x1A x1n x1c (IntKind.wrap .i64 ((1 : Int) + (IntKind.wrap .i64 (Int.tmod x0 100)))) w
abbrev law12_HandlePlays.p0 (K : Value → World → Prop) (x0 : Int) (x1A : Option Addr) (x1n : Nat) (x1c : Nat) (w : World) : Prop :=
  CallsE Try.prog 10 #[] w (fun v1 w2 => ∃ (b3 : Bool), v1 = .bool b3 ∧ condP (!b3) (K (.bool false) w2) (law12_HandlePlays.p1 K x0 x1A x1n x1c w2))
abbrev law12_HandlePlays.F (q0 : Int) (q1A : Option Addr) (q1n : Nat) (q1c : Nat) (K : Value → World → Prop) (w : World) : Prop :=
  law12_HandlePlays.p0 K q0 q1A q1n q1c w
theorem law12_HandlePlays.ok {q0 : Int} {q1A : Option Addr} {q1n : Nat} {q1c : Nat} {K : Value → World → Prop} {w : World} (h : law12_HandlePlays.F q0 q1A q1n q1c K w) :
    CallsE Try.prog 7 #[.int .u8 q0, .slice q1A q1n q1c] w K := by
  refine calls_of_J (n := 55) (rs := [.tmp 4]) Try.func7 rfl rfl rfl rfl ?_
  refine J_seq (fun σ w => vI .u8 (σ 0) fun x0 => vS (σ 1) fun x1A x1n x1c => law12_HandlePlays.p0 K x0 x1A x1n x1c w) ?_ ?_
  ·
    exact sh_sound _ _ _ _ (Eq.mp (by kernel_rfl) h)
  · intro σ w h
    obtain ⟨x0, e0, h⟩ := vI_elim h
    obtain ⟨x1A, x1n, x1c, e1, h⟩ := vS_elim h
    refine J.sub ?_ (((Sub.base _).upd e0).upd e1)
    clear e0 e1
    refine J_seq (fun σ w => vI .u8 (σ 0) fun x0 => vS (σ 1) fun x1A x1n x1c => law12_HandlePlays.p1 K x0 x1A x1n x1c w) ?_ ?_
    ·
      exact sh_sound _ _ _ _ (Eq.mp (by kernel_rfl) h)
    · intro σ w h
      obtain ⟨x0, e0, h⟩ := vI_elim h
      obtain ⟨x1A, x1n, x1c, e1, h⟩ := vS_elim h
      refine J.sub ?_ (((Sub.base _).upd e0).upd e1)
      clear e0 e1
      refine J_seq (fun σ w => vS (σ 1) fun x1A x1n x1c => vI .i64 (σ 5) fun x5 => law12_HandlePlays.p2 K x1A x1n x1c x5 w) ?_ ?_
      ·
        exact sh_sound _ _ _ _ (Eq.mp (by kernel_rfl) h)
      · intro σ w h
        obtain ⟨x1A, x1n, x1c, e1, h⟩ := vS_elim h
        obtain ⟨x5, e5, h⟩ := vI_elim h
        refine J.sub ?_ (((Sub.base _).upd e1).upd e5)
        clear e1 e5
        refine J_seq (fun σ w => vS (σ 1) fun x1A x1n x1c => vI .i64 (σ 5) fun x5 => vP (σ 6) fun x6 => vI .i64 (σ 7) fun x7 => law12_HandlePlays.p3 K x1A x1n x1c x5 x6 x7 w) ?_ ?_
        ·
          exact sh_sound _ _ _ _ (Eq.mp (by kernel_rfl) h)
        · intro σ w h
          obtain ⟨x1A, x1n, x1c, e1, h⟩ := vS_elim h
          obtain ⟨x5, e5, h⟩ := vI_elim h
          obtain ⟨x6, e6, h⟩ := vP_elim h
          obtain ⟨x7, e7, h⟩ := vI_elim h
          refine J.sub ?_ (((((Sub.base _).upd e1).upd e5).upd e6).upd e7)
          clear e1 e5 e6 e7
          refine J_seq (fun σ w => vS (σ 1) fun x1A x1n x1c => vP (σ 6) fun x6 => vI .i64 (σ 7) fun x7 => vP (σ 8) fun x8 => law12_HandlePlays.p4 K x1A x1n x1c x6 x7 x8 w) ?_ ?_
          ·
            exact sh_sound _ _ _ _ (Eq.mp (by kernel_rfl) h)
          · intro σ w h
            obtain ⟨x1A, x1n, x1c, e1, h⟩ := vS_elim h
            obtain ⟨x6, e6, h⟩ := vP_elim h
            obtain ⟨x7, e7, h⟩ := vI_elim h
            obtain ⟨x8, e8, h⟩ := vP_elim h
            refine J.sub ?_ (((((Sub.base _).upd e1).upd e6).upd e7).upd e8)
            clear e1 e6 e7 e8
            refine J_seq (fun σ w => vS (σ 1) fun x1A x1n x1c => vP (σ 6) fun x6 => vP (σ 8) fun x8 => law12_HandlePlays.p6 K x1A x1n x1c x6 x8 w) ?_ ?_
            ·
              refine J_seq (fun σ w => vS (σ 1) fun x1A x1n x1c => vP (σ 6) fun x6 => vP (σ 8) fun x8 => vB (σ 33) fun x33 => law12_HandlePlays.p5 K x1A x1n x1c x6 x8 x33 w) ?_ ?_
              ·
                exact sh_sound _ _ _ _ (Eq.mp (by kernel_rfl) h)
              · intro σ w h
                obtain ⟨x1A, x1n, x1c, e1, h⟩ := vS_elim h
                obtain ⟨x6, e6, h⟩ := vP_elim h
                obtain ⟨x8, e8, h⟩ := vP_elim h
                obtain ⟨x33, e33, h⟩ := vB_elim h
                refine J.sub ?_ (((((Sub.base _).upd e1).upd e6).upd e8).upd e33)
                clear e1 e6 e8 e33
                exact sh_sound _ _ _ _ (Eq.mp (by kernel_rfl) h)
            · intro σ w h
              obtain ⟨x1A, x1n, x1c, e1, h⟩ := vS_elim h
              obtain ⟨x6, e6, h⟩ := vP_elim h
              obtain ⟨x8, e8, h⟩ := vP_elim h
              refine J.sub ?_ ((((Sub.base _).upd e1).upd e6).upd e8)
              clear e1 e6 e8
              refine J_seq (fun σ w => vS (σ 1) fun x1A x1n x1c => vP (σ 6) fun x6 => vP (σ 8) fun x8 => vPa (σ 10) fun x10 => law12_HandlePlays.p7 K x1A x1n x1c x6 x8 x10 w) ?_ ?_
              ·
                exact sh_sound _ _ _ _ (Eq.mp (by kernel_rfl) h)
              · intro σ w h
                obtain ⟨x1A, x1n, x1c, e1, h⟩ := vS_elim h
                obtain ⟨x6, e6, h⟩ := vP_elim h
                obtain ⟨x8, e8, h⟩ := vP_elim h
                obtain ⟨x10, e10, h⟩ := vPa_elim h
                refine J.sub ?_ (((((Sub.base _).upd e1).upd e6).upd e8).upd e10)
                clear e1 e6 e8 e10
                refine J_seq (fun σ w => vP (σ 6) fun x6 => vP (σ 8) fun x8 => law12_HandlePlays.p11 K x6 x8 w) ?_ ?_
                ·
                  refine J_seq (fun σ w => vS (σ 1) fun x1A x1n x1c => vP (σ 6) fun x6 => vP (σ 8) fun x8 => vPa (σ 10) fun x10 => vI .i64 (σ 11) fun x11 => law12_HandlePlays.p8 K x1A x1n x1c x6 x8 x10 x11 w) ?_ ?_
                  ·
                    exact sh_sound _ _ _ _ (Eq.mp (by kernel_rfl) h)
                  · intro σ w h
                    obtain ⟨x1A, x1n, x1c, e1, h⟩ := vS_elim h
                    obtain ⟨x6, e6, h⟩ := vP_elim h
                    obtain ⟨x8, e8, h⟩ := vP_elim h
                    obtain ⟨x10, e10, h⟩ := vPa_elim h
                    obtain ⟨x11, e11, h⟩ := vI_elim h
                    refine J.sub ?_ ((((((Sub.base _).upd e1).upd e6).upd e8).upd e10).upd e11)
                    clear e1 e6 e8 e10 e11
                    refine J_block ?_
                    refine J_loop (fun k σ w => vS (σ 1) fun x1A x1n x1c => vP (σ 6) fun x6 => vP (σ 8) fun x8 => vPa (σ 10) fun x10 => vI .i64 (σ 11) fun x11 => law12_HandlePlays.l0 K k x1A x1n x1c x6 x8 x10 x11 w) (Eq.mp (by kernel_rfl) h) ?_ ?_
                    · intro σ w h
                      obtain ⟨x1A, x1n, x1c, e1, h⟩ := vS_elim h
                      obtain ⟨x6, e6, h⟩ := vP_elim h
                      obtain ⟨x8, e8, h⟩ := vP_elim h
                      obtain ⟨x10, e10, h⟩ := vPa_elim h
                      obtain ⟨x11, e11, h⟩ := vI_elim h
                      exact h
                    · intro k0 σ w h
                      obtain ⟨x1A, x1n, x1c, e1, h⟩ := vS_elim h
                      obtain ⟨x6, e6, h⟩ := vP_elim h
                      obtain ⟨x8, e8, h⟩ := vP_elim h
                      obtain ⟨x10, e10, h⟩ := vPa_elim h
                      obtain ⟨x11, e11, h⟩ := vI_elim h
                      refine J.sub ?_ ((((((Sub.base _).upd e1).upd e6).upd e8).upd e10).upd e11)
                      clear e1 e6 e8 e10 e11
                      refine J_seq (fun σ w => vS (σ 1) fun x1A x1n x1c => vP (σ 6) fun x6 => vP (σ 8) fun x8 => vPa (σ 10) fun x10 => vI .i64 (σ 11) fun x11 => law12_HandlePlays.p10 (law12_HandlePlays.l0 K k0) K x1A x1n x1c x6 x8 x10 x11 w) ?_ ?_
                      ·
                        refine J_seq (fun σ w => vS (σ 1) fun x1A x1n x1c => vP (σ 6) fun x6 => vP (σ 8) fun x8 => vPa (σ 10) fun x10 => vI .i64 (σ 11) fun x11 => vB (σ 41) fun x41 => law12_HandlePlays.p9 (law12_HandlePlays.l0 K k0) K x1A x1n x1c x6 x8 x10 x11 x41 w) ?_ ?_
                        ·
                          exact sh_sound _ _ _ _ (Eq.mp (by kernel_rfl) h)
                        · intro σ w h
                          obtain ⟨x1A, x1n, x1c, e1, h⟩ := vS_elim h
                          obtain ⟨x6, e6, h⟩ := vP_elim h
                          obtain ⟨x8, e8, h⟩ := vP_elim h
                          obtain ⟨x10, e10, h⟩ := vPa_elim h
                          obtain ⟨x11, e11, h⟩ := vI_elim h
                          obtain ⟨x41, e41, h⟩ := vB_elim h
                          refine J.sub ?_ (((((((Sub.base _).upd e1).upd e6).upd e8).upd e10).upd e11).upd e41)
                          clear e1 e6 e8 e10 e11 e41
                          exact sh_sound _ _ _ _ (Eq.mp (by kernel_rfl) h)
                      · intro σ w h
                        obtain ⟨x1A, x1n, x1c, e1, h⟩ := vS_elim h
                        obtain ⟨x6, e6, h⟩ := vP_elim h
                        obtain ⟨x8, e8, h⟩ := vP_elim h
                        obtain ⟨x10, e10, h⟩ := vPa_elim h
                        obtain ⟨x11, e11, h⟩ := vI_elim h
                        refine J.sub ?_ ((((((Sub.base _).upd e1).upd e6).upd e8).upd e10).upd e11)
                        clear e1 e6 e8 e10 e11
                        exact sh_sound _ _ _ _ (Eq.mp (by kernel_rfl) h)
                · intro σ w h
                  obtain ⟨x6, e6, h⟩ := vP_elim h
                  obtain ⟨x8, e8, h⟩ := vP_elim h
                  refine J.sub ?_ (((Sub.base _).upd e6).upd e8)
                  clear e6 e8
                  exact sh_sound _ _ _ _ (Eq.mp (by kernel_rfl) h)

/-! ### hayloft/hayloftlaw12.HandleFrom: function 8 -/
abbrev law12_HandleFrom.p14 (L1 : Option Addr → Nat → Nat → Option Addr → Option Addr → Bool → Addr → Int → World → Prop) (K : Value → World → Prop) (x2A : Option Addr) (x2n : Nat) (x2c : Nat) (x8 : Option Addr) (x10 : Option Addr) (x14 : Addr) (x15 : Int) (w : World) : Prop :=
  (0 ≤ x15 ∧ x15 < ((x2n : Nat) : Int)) ∧ ∃ (a41 : Addr), x2A = some a41 ∧ ∃ (n42 : Int), w.cell? (a41.add (x15.toNat * 5)) = some (.int .i64 n42) ∧ ∃ (n43 : Int), w.cell? ((a41.add (x15.toNat * 5)).add 1) = some (.int .i64 n43) ∧ ∃ (n44 : Int), w.cell? ((a41.add (x15.toNat * 5)).add 2) = some (.int .u64 n44) ∧ ∃ (n45 : Int), w.cell? ((a41.add (x15.toNat * 5)).add 3) = some (.int .i64 n45) ∧ ∃ (n46 : Int), w.cell? ((a41.add (x15.toNat * 5)).add 4) = some (.int .i64 n46) ∧ CallsE Try.prog 22 #[.pointer x8, .pointer x10, .agg #[.int .i64 n42, .int .i64 n43, .int .u64 n44, .int .i64 n45, .int .i64 n46], .pointer (some x14)] w (fun v47 w48 => ∃ (b49 : Bool), v47 = .bool b49 ∧ L1 x2A x2n x2c x8 x10 b49 x14 (IntKind.wrap .i64 (x15 + (1 : Int))) w48)
abbrev law12_HandleFrom.p16 (K : Value → World → Prop) (x6 : Bool) (w : World) : Prop :=
  K (.bool x6) w
abbrev law12_HandleFrom.p15 (K : Value → World → Prop) (x8 : Option Addr) (x10 : Option Addr) (x13 : Bool) (w : World) : Prop :=
  condP x13 (CallsE Try.prog 23 #[.pointer x8, .pointer x10] w (fun v50 w51 => ∃ (b52 : Bool), v50 = .bool b52 ∧ law12_HandleFrom.p16 K b52 w51)) (law12_HandleFrom.p16 K false w)
abbrev law12_HandleFrom.p13 (L1 : Option Addr → Nat → Nat → Option Addr → Option Addr → Bool → Addr → Int → World → Prop) (K : Value → World → Prop) (x2A : Option Addr) (x2n : Nat) (x2c : Nat) (x8 : Option Addr) (x10 : Option Addr) (x13 : Bool) (x14 : Addr) (x15 : Int) (x77 : Bool) (w : World) : Prop :=
  condP x77 (law12_HandleFrom.p14 L1 K x2A x2n x2c x8 x10 x14 x15 w) (law12_HandleFrom.p15 K x8 x10 x13 w)
abbrev law12_HandleFrom.b1 (L1 : Option Addr → Nat → Nat → Option Addr → Option Addr → Bool → Addr → Int → World → Prop) (K : Value → World → Prop) (x2A : Option Addr) (x2n : Nat) (x2c : Nat) (x8 : Option Addr) (x10 : Option Addr) (x13 : Bool) (x14 : Addr) (x15 : Int) (w : World) : Prop :=
  condP (decide (x15 < ((x2n : Nat) : Int))) (condP (decide (x15 < (60 : Int))) (law12_HandleFrom.p13 L1 K x2A x2n x2c x8 x10 x13 x14 x15 x13 w) (law12_HandleFrom.p13 L1 K x2A x2n x2c x8 x10 x13 x14 x15 false w)) (law12_HandleFrom.p13 L1 K x2A x2n x2c x8 x10 x13 x14 x15 false w)
def law12_HandleFrom.l1 (K : Value → World → Prop) (k : Nat) : Option Addr → Nat → Nat → Option Addr → Option Addr → Bool → Addr → Int → World → Prop :=
  Nat.rec (motive := fun _ => Option Addr → Nat → Nat → Option Addr → Option Addr → Bool → Addr → Int → World → Prop) (fun _ _ _ _ _ _ _ _ _ => False) (fun _ ih => law12_HandleFrom.b1 ih K) k
theorem law12_HandleFrom.l1_succ (K : Value → World → Prop) (k : Nat) (x2A : Option Addr) (x2n : Nat) (x2c : Nat) (x8 : Option Addr) (x10 : Option Addr) (x13 : Bool) (x14 : Addr) (x15 : Int) (w : World) : law12_HandleFrom.l1 K (k + 1) x2A x2n x2c x8 x10 x13 x14 x15 w = law12_HandleFrom.b1 (law12_HandleFrom.l1 K k) K x2A x2n x2c x8 x10 x13 x14 x15 w := rfl
abbrev law12_HandleFrom.p12 (K : Value → World → Prop) (x2A : Option Addr) (x2n : Nat) (x2c : Nat) (x8 : Option Addr) (x10 : Option Addr) (x13 : Bool) (x14 : Addr) (x15 : Int) (w : World) : Prop :=
  ∃ k, law12_HandleFrom.l1 K k x2A x2n x2c x8 x10 x13 x14 x15 w
abbrev law12_HandleFrom.p11 (K : Value → World → Prop) (x2A : Option Addr) (x2n : Nat) (x2c : Nat) (x8 : Option Addr) (x10 : Option Addr) (x13 : Bool) (x14 : Addr) (w : World) : Prop :=
  law12_HandleFrom.p12 K x2A x2n x2c x8 x10 x13 x14 0 w
abbrev law12_HandleFrom.p10 (K : Value → World → Prop) (x2A : Option Addr) (x2n : Nat) (x2c : Nat) (x8 : Option Addr) (x10 : Option Addr) (x13 : Bool) (w : World) : Prop :=
  CallsE Try.prog 26 #[.pointer x10] w (fun v34 w35 => ∃ (A36 : Option Addr) (m37 : Nat) (c38 : Nat), v34 = .slice A36 m37 c38 ∧ wlet (w35.alloc (.cells #[.slice none 0 0] 38)) fun w39 => canStore w39 (⟨w35.heap.size, 0, none⟩) ∧ wlet (w39.setCell (⟨w35.heap.size, 0, none⟩) (.slice A36 m37 c38)) fun w40 => law12_HandleFrom.p11 K x2A x2n x2c x8 x10 x13 (⟨w35.heap.size, 0, none⟩) w40)
abbrev law12_HandleFrom.p9 (K : Value → World → Prop) (x1A : Option Addr) (x1n : Nat) (x1c : Nat) (x2A : Option Addr) (x2n : Nat) (x2c : Nat) (x8 : Option Addr) (x10 : Option Addr) (w : World) : Prop :=
  CallsE Try.prog 23 #[.pointer x8, .pointer x10] w (fun v23 w24 => ∃ (b25 : Bool), v23 = .bool b25 ∧ condP b25 (CallsE Try.prog 25 #[.pointer x8] w24 (fun v26 w27 => ∃ (A28 : Option Addr) (m29 : Nat) (c30 : Nat), v26 = .slice A28 m29 c30 ∧ CallsE Try.prog 24 #[.slice A28 m29 c30, .slice x1A x1n x1c] w27 (fun v31 w32 => ∃ (b33 : Bool), v31 = .bool b33 ∧ law12_HandleFrom.p10 K x2A x2n x2c x8 x10 b33 w32))) (law12_HandleFrom.p10 K x2A x2n x2c x8 x10 false w24))
abbrev law12_HandleFrom.b0 (L0 : Option Addr → Nat → Nat → Option Addr → Nat → Nat → Option Addr → Nat → Nat → Option Addr → Option Addr → Int → Int → World → Prop) (K : Value → World → Prop) (x1A : Option Addr) (x1n : Nat) (x1c : Nat) (x2A : Option Addr) (x2n : Nat) (x2c : Nat) (x7A : Option Addr) (x7n : Nat) (x7c : Nat) (x8 : Option Addr) (x10 : Option Addr) (x47 : Int) (x48 : Int) (w : World) : Prop :=
  condP (decide (x48 < x47)) ((0 ≤ x48 ∧ x48 < ((x7n : Nat) : Int)) ∧ ∃ (a18 : Addr), x7A = some a18 ∧ canStore w (a18.add (x48.toNat * 4)) ∧ wlet (w.setCell (a18.add (x48.toNat * 4)) (.int .i64 0)) fun w19 => canStore w19 ((a18.add (x48.toNat * 4)).add 1) ∧ wlet (w19.setCell ((a18.add (x48.toNat * 4)).add 1) (.bool false)) fun w20 => canStore w20 ((a18.add (x48.toNat * 4)).add 2) ∧ wlet (w20.setCell ((a18.add (x48.toNat * 4)).add 2) (.int .i64 0)) fun w21 => canStore w21 ((a18.add (x48.toNat * 4)).add 3) ∧ wlet (w21.setCell ((a18.add (x48.toNat * 4)).add 3) (.int .i64 0)) fun w22 => L0 x1A x1n x1c x2A x2n x2c x7A x7n x7c x8 x10 x47 (IntKind.wrap .i64 (x48 + (1 : Int))) w22) (law12_HandleFrom.p9 K x1A x1n x1c x2A x2n x2c x8 x10 w)
def law12_HandleFrom.l0 (K : Value → World → Prop) (k : Nat) : Option Addr → Nat → Nat → Option Addr → Nat → Nat → Option Addr → Nat → Nat → Option Addr → Option Addr → Int → Int → World → Prop :=
  Nat.rec (motive := fun _ => Option Addr → Nat → Nat → Option Addr → Nat → Nat → Option Addr → Nat → Nat → Option Addr → Option Addr → Int → Int → World → Prop) (fun _ _ _ _ _ _ _ _ _ _ _ _ _ _ => False) (fun _ ih => law12_HandleFrom.b0 ih K) k
theorem law12_HandleFrom.l0_succ (K : Value → World → Prop) (k : Nat) (x1A : Option Addr) (x1n : Nat) (x1c : Nat) (x2A : Option Addr) (x2n : Nat) (x2c : Nat) (x7A : Option Addr) (x7n : Nat) (x7c : Nat) (x8 : Option Addr) (x10 : Option Addr) (x47 : Int) (x48 : Int) (w : World) : law12_HandleFrom.l0 K (k + 1) x1A x1n x1c x2A x2n x2c x7A x7n x7c x8 x10 x47 x48 w = law12_HandleFrom.b0 (law12_HandleFrom.l0 K k) K x1A x1n x1c x2A x2n x2c x7A x7n x7c x8 x10 x47 x48 w := rfl
abbrev law12_HandleFrom.p8 (K : Value → World → Prop) (x1A : Option Addr) (x1n : Nat) (x1c : Nat) (x2A : Option Addr) (x2n : Nat) (x2c : Nat) (x7A : Option Addr) (x7n : Nat) (x7c : Nat) (x8 : Option Addr) (x10 : Option Addr) (x47 : Int) (x48 : Int) (w : World) : Prop :=
  ∃ k, law12_HandleFrom.l0 K k x1A x1n x1c x2A x2n x2c x7A x7n x7c x8 x10 x47 x48 w
abbrev law12_HandleFrom.p7 (K : Value → World → Prop) (x1A : Option Addr) (x1n : Nat) (x1c : Nat) (x2A : Option Addr) (x2n : Nat) (x2c : Nat) (x7A : Option Addr) (x7n : Nat) (x7c : Nat) (x8 : Option Addr) (x10 : Option Addr) (w : World) : Prop :=
  law12_HandleFrom.p8 K x1A x1n x1c x2A x2n x2c x7A x7n x7c x8 x10 ((x7n : Nat) : Int) 0 w
abbrev law12_HandleFrom.p6 (K : Value → World → Prop) (x1A : Option Addr) (x1n : Nat) (x1c : Nat) (x2A : Option Addr) (x2n : Nat) (x2c : Nat) (x7A : Option Addr) (x7n : Nat) (x7c : Nat) (x8 : Option Addr) (x10 : Option Addr) (x11 : Int) (w : World) : Prop :=
  condP (x11 != (0 : Int)) (K (.bool x8.isNone) w) (law12_HandleFrom.p7 K x1A x1n x1c x2A x2n x2c x7A x7n x7c x8 x10 w)
abbrev law12_HandleFrom.p5 (K : Value → World → Prop) (x1A : Option Addr) (x1n : Nat) (x1c : Nat) (x2A : Option Addr) (x2n : Nat) (x2c : Nat) (x7A : Option Addr) (x7n : Nat) (x7c : Nat) (x8 : Option Addr) (x10 : Option Addr) (x11 : Int) (x41 : Bool) (w : World) : Prop :=
  condP x41 (K (.bool false) w) (law12_HandleFrom.p6 K x1A x1n x1c x2A x2n x2c x7A x7n x7c x8 x10 x11 w)
abbrev law12_HandleFrom.p4 (K : Value → World → Prop) (x1A : Option Addr) (x1n : Nat) (x1c : Nat) (x2A : Option Addr) (x2n : Nat) (x2c : Nat) (x7A : Option Addr) (x7n : Nat) (x7c : Nat) (x8 : Option Addr) (x9 : Int) (x10 : Option Addr) (x11 : Int) (w : World) : Prop :=
  condP (x9 != x11) (law12_HandleFrom.p5 K x1A x1n x1c x2A x2n x2c x7A x7n x7c x8 x10 x11 true w) (CallsE Try.prog 24 #[.slice x7A x7n x7c, .slice x1A x1n x1c] w (fun v53 w54 => ∃ (b55 : Bool), v53 = .bool b55 ∧ law12_HandleFrom.p5 K x1A x1n x1c x2A x2n x2c x7A x7n x7c x8 x10 x11 (!b55) w54))
abbrev law12_HandleFrom.p3 (K : Value → World → Prop) (x0 : Int) (x1A : Option Addr) (x1n : Nat) (x1c : Nat) (x2A : Option Addr) (x2n : Nat) (x2c : Nat) (x7A : Option Addr) (x7n : Nat) (x7c : Nat) (x8 : Option Addr) (x9 : Int) (w : World) : Prop :=
  CallsE Try.prog 21 #[.int .i64 x0, .slice x1A x1n x1c] w (fun v14 w15 => ∃ (p16 : Option Addr) (n17 : Int), v14 = .tuple #[.pointer p16, .int .i64 n17] ∧ law12_HandleFrom.p4 K x1A x1n x1c x2A x2n x2c x7A x7n x7c x8 x9 p16 n17 w15)
abbrev law12_HandleFrom.p2 (K : Value → World → Prop) (x0 : Int) (x1A : Option Addr) (x1n : Nat) (x1c : Nat) (x2A : Option Addr) (x2n : Nat) (x2c : Nat) (x7A : Option Addr) (x7n : Nat) (x7c : Nat) (w : World) : Prop :=
  CallsE Try.prog 13 #[.int .i64 x0, .slice x7A x7n x7c] w (fun v10 w11 => ∃ (p12 : Option Addr) (n13 : Int), v10 = .tuple #[.pointer p12, .int .i64 n13] ∧ law12_HandleFrom.p3 K x0 x1A x1n x1c x2A x2n x2c x7A x7n x7c p12 n13 w11)
abbrev law12_HandleFrom.p1 (K : Value → World → Prop) (x0 : Int) (x1A : Option Addr) (x1n : Nat) (x1c : Nat) (x2A : Option Addr) (x2n : Nat) (x2c : Nat) (w : World) : Prop :=
  wlet (w.alloc (.cells #[] 33)) fun w4 => SemJ Try.prog (Builtin.append_ #[30, 30] 30 #[.slice (some ⟨w.heap.size, 0, none⟩) 0 0, .slice x1A x1n x1c]) (fun v5 w6 => ∃ (A7 : Option Addr) (m8 : Nat) (c9 : Nat), v5 = .slice A7 m8 c9 ∧ law12_HandleFrom.p2 K x0 x1A x1n x1c x2A x2n x2c A7 m8 c9 w6) w4
abbrev law12_HandleFrom.p0 (K : Value → World → Prop) (x0 : Int) (x1A : Option Addr) (x1n : Nat) (x1c : Nat) (x2A : Option Addr) (x2n : Nat) (x2c : Nat) (w : World) : Prop :=
  CallsE Try.prog 10 #[] w (fun v1 w2 => ∃ (b3 : Bool), v1 = .bool b3 ∧ condP (!b3) (K (.bool false) w2) (law12_HandleFrom.p1 K x0 x1A x1n x1c x2A x2n x2c w2))
abbrev law12_HandleFrom.F (q0 : Int) (q1A : Option Addr) (q1n : Nat) (q1c : Nat) (q2A : Option Addr) (q2n : Nat) (q2c : Nat) (K : Value → World → Prop) (w : World) : Prop :=
  law12_HandleFrom.p0 K q0 q1A q1n q1c q2A q2n q2c w
theorem law12_HandleFrom.ok {q0 : Int} {q1A : Option Addr} {q1n : Nat} {q1c : Nat} {q2A : Option Addr} {q2n : Nat} {q2c : Nat} {K : Value → World → Prop} {w : World} (h : law12_HandleFrom.F q0 q1A q1n q1c q2A q2n q2c K w) :
    CallsE Try.prog 8 #[.int .i64 q0, .slice q1A q1n q1c, .slice q2A q2n q2c] w K := by
  refine calls_of_J (n := 93) (rs := [.tmp 6]) Try.func8 rfl rfl rfl rfl ?_
  refine J_seq (fun σ w => vI .i64 (σ 0) fun x0 => vS (σ 1) fun x1A x1n x1c => vS (σ 2) fun x2A x2n x2c => law12_HandleFrom.p0 K x0 x1A x1n x1c x2A x2n x2c w) ?_ ?_
  ·
    exact sh_sound _ _ _ _ (Eq.mp (by kernel_rfl) h)
  · intro σ w h
    obtain ⟨x0, e0, h⟩ := vI_elim h
    obtain ⟨x1A, x1n, x1c, e1, h⟩ := vS_elim h
    obtain ⟨x2A, x2n, x2c, e2, h⟩ := vS_elim h
    refine J.sub ?_ ((((Sub.base _).upd e0).upd e1).upd e2)
    clear e0 e1 e2
    refine J_seq (fun σ w => vI .i64 (σ 0) fun x0 => vS (σ 1) fun x1A x1n x1c => vS (σ 2) fun x2A x2n x2c => law12_HandleFrom.p1 K x0 x1A x1n x1c x2A x2n x2c w) ?_ ?_
    ·
      exact sh_sound _ _ _ _ (Eq.mp (by kernel_rfl) h)
    · intro σ w h
      obtain ⟨x0, e0, h⟩ := vI_elim h
      obtain ⟨x1A, x1n, x1c, e1, h⟩ := vS_elim h
      obtain ⟨x2A, x2n, x2c, e2, h⟩ := vS_elim h
      refine J.sub ?_ ((((Sub.base _).upd e0).upd e1).upd e2)
      clear e0 e1 e2
      refine J_seq (fun σ w => vI .i64 (σ 0) fun x0 => vS (σ 1) fun x1A x1n x1c => vS (σ 2) fun x2A x2n x2c => vS (σ 7) fun x7A x7n x7c => law12_HandleFrom.p2 K x0 x1A x1n x1c x2A x2n x2c x7A x7n x7c w) ?_ ?_
      ·
        exact sh_sound _ _ _ _ (Eq.mp (by kernel_rfl) h)
      · intro σ w h
        obtain ⟨x0, e0, h⟩ := vI_elim h
        obtain ⟨x1A, x1n, x1c, e1, h⟩ := vS_elim h
        obtain ⟨x2A, x2n, x2c, e2, h⟩ := vS_elim h
        obtain ⟨x7A, x7n, x7c, e7, h⟩ := vS_elim h
        refine J.sub ?_ (((((Sub.base _).upd e0).upd e1).upd e2).upd e7)
        clear e0 e1 e2 e7
        refine J_seq (fun σ w => vI .i64 (σ 0) fun x0 => vS (σ 1) fun x1A x1n x1c => vS (σ 2) fun x2A x2n x2c => vS (σ 7) fun x7A x7n x7c => vP (σ 8) fun x8 => vI .i64 (σ 9) fun x9 => law12_HandleFrom.p3 K x0 x1A x1n x1c x2A x2n x2c x7A x7n x7c x8 x9 w) ?_ ?_
        ·
          exact sh_sound _ _ _ _ (Eq.mp (by kernel_rfl) h)
        · intro σ w h
          obtain ⟨x0, e0, h⟩ := vI_elim h
          obtain ⟨x1A, x1n, x1c, e1, h⟩ := vS_elim h
          obtain ⟨x2A, x2n, x2c, e2, h⟩ := vS_elim h
          obtain ⟨x7A, x7n, x7c, e7, h⟩ := vS_elim h
          obtain ⟨x8, e8, h⟩ := vP_elim h
          obtain ⟨x9, e9, h⟩ := vI_elim h
          refine J.sub ?_ (((((((Sub.base _).upd e0).upd e1).upd e2).upd e7).upd e8).upd e9)
          clear e0 e1 e2 e7 e8 e9
          refine J_seq (fun σ w => vS (σ 1) fun x1A x1n x1c => vS (σ 2) fun x2A x2n x2c => vS (σ 7) fun x7A x7n x7c => vP (σ 8) fun x8 => vI .i64 (σ 9) fun x9 => vP (σ 10) fun x10 => vI .i64 (σ 11) fun x11 => law12_HandleFrom.p4 K x1A x1n x1c x2A x2n x2c x7A x7n x7c x8 x9 x10 x11 w) ?_ ?_
          ·
            exact sh_sound _ _ _ _ (Eq.mp (by kernel_rfl) h)
          · intro σ w h
            obtain ⟨x1A, x1n, x1c, e1, h⟩ := vS_elim h
            obtain ⟨x2A, x2n, x2c, e2, h⟩ := vS_elim h
            obtain ⟨x7A, x7n, x7c, e7, h⟩ := vS_elim h
            obtain ⟨x8, e8, h⟩ := vP_elim h
            obtain ⟨x9, e9, h⟩ := vI_elim h
            obtain ⟨x10, e10, h⟩ := vP_elim h
            obtain ⟨x11, e11, h⟩ := vI_elim h
            refine J.sub ?_ ((((((((Sub.base _).upd e1).upd e2).upd e7).upd e8).upd e9).upd e10).upd e11)
            clear e1 e2 e7 e8 e9 e10 e11
            refine J_seq (fun σ w => vS (σ 1) fun x1A x1n x1c => vS (σ 2) fun x2A x2n x2c => vS (σ 7) fun x7A x7n x7c => vP (σ 8) fun x8 => vP (σ 10) fun x10 => vI .i64 (σ 11) fun x11 => law12_HandleFrom.p6 K x1A x1n x1c x2A x2n x2c x7A x7n x7c x8 x10 x11 w) ?_ ?_
            ·
              refine J_seq (fun σ w => vS (σ 1) fun x1A x1n x1c => vS (σ 2) fun x2A x2n x2c => vS (σ 7) fun x7A x7n x7c => vP (σ 8) fun x8 => vP (σ 10) fun x10 => vI .i64 (σ 11) fun x11 => vB (σ 41) fun x41 => law12_HandleFrom.p5 K x1A x1n x1c x2A x2n x2c x7A x7n x7c x8 x10 x11 x41 w) ?_ ?_
              ·
                exact sh_sound _ _ _ _ (Eq.mp (by kernel_rfl) h)
              · intro σ w h
                obtain ⟨x1A, x1n, x1c, e1, h⟩ := vS_elim h
                obtain ⟨x2A, x2n, x2c, e2, h⟩ := vS_elim h
                obtain ⟨x7A, x7n, x7c, e7, h⟩ := vS_elim h
                obtain ⟨x8, e8, h⟩ := vP_elim h
                obtain ⟨x10, e10, h⟩ := vP_elim h
                obtain ⟨x11, e11, h⟩ := vI_elim h
                obtain ⟨x41, e41, h⟩ := vB_elim h
                refine J.sub ?_ ((((((((Sub.base _).upd e1).upd e2).upd e7).upd e8).upd e10).upd e11).upd e41)
                clear e1 e2 e7 e8 e10 e11 e41
                exact sh_sound _ _ _ _ (Eq.mp (by kernel_rfl) h)
            · intro σ w h
              obtain ⟨x1A, x1n, x1c, e1, h⟩ := vS_elim h
              obtain ⟨x2A, x2n, x2c, e2, h⟩ := vS_elim h
              obtain ⟨x7A, x7n, x7c, e7, h⟩ := vS_elim h
              obtain ⟨x8, e8, h⟩ := vP_elim h
              obtain ⟨x10, e10, h⟩ := vP_elim h
              obtain ⟨x11, e11, h⟩ := vI_elim h
              refine J.sub ?_ (((((((Sub.base _).upd e1).upd e2).upd e7).upd e8).upd e10).upd e11)
              clear e1 e2 e7 e8 e10 e11
              refine J_seq (fun σ w => vS (σ 1) fun x1A x1n x1c => vS (σ 2) fun x2A x2n x2c => vS (σ 7) fun x7A x7n x7c => vP (σ 8) fun x8 => vP (σ 10) fun x10 => law12_HandleFrom.p7 K x1A x1n x1c x2A x2n x2c x7A x7n x7c x8 x10 w) ?_ ?_
              ·
                exact sh_sound _ _ _ _ (Eq.mp (by kernel_rfl) h)
              · intro σ w h
                obtain ⟨x1A, x1n, x1c, e1, h⟩ := vS_elim h
                obtain ⟨x2A, x2n, x2c, e2, h⟩ := vS_elim h
                obtain ⟨x7A, x7n, x7c, e7, h⟩ := vS_elim h
                obtain ⟨x8, e8, h⟩ := vP_elim h
                obtain ⟨x10, e10, h⟩ := vP_elim h
                refine J.sub ?_ ((((((Sub.base _).upd e1).upd e2).upd e7).upd e8).upd e10)
                clear e1 e2 e7 e8 e10
                refine J_seq (fun σ w => vS (σ 1) fun x1A x1n x1c => vS (σ 2) fun x2A x2n x2c => vP (σ 8) fun x8 => vP (σ 10) fun x10 => law12_HandleFrom.p9 K x1A x1n x1c x2A x2n x2c x8 x10 w) ?_ ?_
                ·
                  refine J_seq (fun σ w => vS (σ 1) fun x1A x1n x1c => vS (σ 2) fun x2A x2n x2c => vS (σ 7) fun x7A x7n x7c => vP (σ 8) fun x8 => vP (σ 10) fun x10 => vI .i64 (σ 47) fun x47 => vI .i64 (σ 48) fun x48 => law12_HandleFrom.p8 K x1A x1n x1c x2A x2n x2c x7A x7n x7c x8 x10 x47 x48 w) ?_ ?_
                  ·
                    exact sh_sound _ _ _ _ (Eq.mp (by kernel_rfl) h)
                  · intro σ w h
                    obtain ⟨x1A, x1n, x1c, e1, h⟩ := vS_elim h
                    obtain ⟨x2A, x2n, x2c, e2, h⟩ := vS_elim h
                    obtain ⟨x7A, x7n, x7c, e7, h⟩ := vS_elim h
                    obtain ⟨x8, e8, h⟩ := vP_elim h
                    obtain ⟨x10, e10, h⟩ := vP_elim h
                    obtain ⟨x47, e47, h⟩ := vI_elim h
                    obtain ⟨x48, e48, h⟩ := vI_elim h
                    refine J.sub ?_ ((((((((Sub.base _).upd e1).upd e2).upd e7).upd e8).upd e10).upd e47).upd e48)
                    clear e1 e2 e7 e8 e10 e47 e48
                    refine J_block ?_
                    refine J_loop (fun k σ w => vS (σ 1) fun x1A x1n x1c => vS (σ 2) fun x2A x2n x2c => vS (σ 7) fun x7A x7n x7c => vP (σ 8) fun x8 => vP (σ 10) fun x10 => vI .i64 (σ 47) fun x47 => vI .i64 (σ 48) fun x48 => law12_HandleFrom.l0 K k x1A x1n x1c x2A x2n x2c x7A x7n x7c x8 x10 x47 x48 w) (Eq.mp (by kernel_rfl) h) ?_ ?_
                    · intro σ w h
                      obtain ⟨x1A, x1n, x1c, e1, h⟩ := vS_elim h
                      obtain ⟨x2A, x2n, x2c, e2, h⟩ := vS_elim h
                      obtain ⟨x7A, x7n, x7c, e7, h⟩ := vS_elim h
                      obtain ⟨x8, e8, h⟩ := vP_elim h
                      obtain ⟨x10, e10, h⟩ := vP_elim h
                      obtain ⟨x47, e47, h⟩ := vI_elim h
                      obtain ⟨x48, e48, h⟩ := vI_elim h
                      exact h
                    · intro k0 σ w h
                      obtain ⟨x1A, x1n, x1c, e1, h⟩ := vS_elim h
                      obtain ⟨x2A, x2n, x2c, e2, h⟩ := vS_elim h
                      obtain ⟨x7A, x7n, x7c, e7, h⟩ := vS_elim h
                      obtain ⟨x8, e8, h⟩ := vP_elim h
                      obtain ⟨x10, e10, h⟩ := vP_elim h
                      obtain ⟨x47, e47, h⟩ := vI_elim h
                      obtain ⟨x48, e48, h⟩ := vI_elim h
                      refine J.sub ?_ ((((((((Sub.base _).upd e1).upd e2).upd e7).upd e8).upd e10).upd e47).upd e48)
                      clear e1 e2 e7 e8 e10 e47 e48
                      exact sh_sound _ _ _ _ (Eq.mp (by kernel_rfl) h)
                · intro σ w h
                  obtain ⟨x1A, x1n, x1c, e1, h⟩ := vS_elim h
                  obtain ⟨x2A, x2n, x2c, e2, h⟩ := vS_elim h
                  obtain ⟨x8, e8, h⟩ := vP_elim h
                  obtain ⟨x10, e10, h⟩ := vP_elim h
                  refine J.sub ?_ (((((Sub.base _).upd e1).upd e2).upd e8).upd e10)
                  clear e1 e2 e8 e10
                  refine J_seq (fun σ w => vS (σ 2) fun x2A x2n x2c => vP (σ 8) fun x8 => vP (σ 10) fun x10 => vB (σ 13) fun x13 => law12_HandleFrom.p10 K x2A x2n x2c x8 x10 x13 w) ?_ ?_
                  ·
                    exact sh_sound _ _ _ _ (Eq.mp (by kernel_rfl) h)
                  · intro σ w h
                    obtain ⟨x2A, x2n, x2c, e2, h⟩ := vS_elim h
                    obtain ⟨x8, e8, h⟩ := vP_elim h
                    obtain ⟨x10, e10, h⟩ := vP_elim h
                    obtain ⟨x13, e13, h⟩ := vB_elim h
                    refine J.sub ?_ (((((Sub.base _).upd e2).upd e8).upd e10).upd e13)
                    clear e2 e8 e10 e13
                    refine J_seq (fun σ w => vS (σ 2) fun x2A x2n x2c => vP (σ 8) fun x8 => vP (σ 10) fun x10 => vB (σ 13) fun x13 => vPa (σ 14) fun x14 => law12_HandleFrom.p11 K x2A x2n x2c x8 x10 x13 x14 w) ?_ ?_
                    ·
                      exact sh_sound _ _ _ _ (Eq.mp (by kernel_rfl) h)
                    · intro σ w h
                      obtain ⟨x2A, x2n, x2c, e2, h⟩ := vS_elim h
                      obtain ⟨x8, e8, h⟩ := vP_elim h
                      obtain ⟨x10, e10, h⟩ := vP_elim h
                      obtain ⟨x13, e13, h⟩ := vB_elim h
                      obtain ⟨x14, e14, h⟩ := vPa_elim h
                      refine J.sub ?_ ((((((Sub.base _).upd e2).upd e8).upd e10).upd e13).upd e14)
                      clear e2 e8 e10 e13 e14
                      refine J_seq (fun σ w => vP (σ 8) fun x8 => vP (σ 10) fun x10 => vB (σ 13) fun x13 => law12_HandleFrom.p15 K x8 x10 x13 w) ?_ ?_
                      ·
                        refine J_seq (fun σ w => vS (σ 2) fun x2A x2n x2c => vP (σ 8) fun x8 => vP (σ 10) fun x10 => vB (σ 13) fun x13 => vPa (σ 14) fun x14 => vI .i64 (σ 15) fun x15 => law12_HandleFrom.p12 K x2A x2n x2c x8 x10 x13 x14 x15 w) ?_ ?_
                        ·
                          exact sh_sound _ _ _ _ (Eq.mp (by kernel_rfl) h)
                        · intro σ w h
                          obtain ⟨x2A, x2n, x2c, e2, h⟩ := vS_elim h
                          obtain ⟨x8, e8, h⟩ := vP_elim h
                          obtain ⟨x10, e10, h⟩ := vP_elim h
                          obtain ⟨x13, e13, h⟩ := vB_elim h
                          obtain ⟨x14, e14, h⟩ := vPa_elim h
                          obtain ⟨x15, e15, h⟩ := vI_elim h
                          refine J.sub ?_ (((((((Sub.base _).upd e2).upd e8).upd e10).upd e13).upd e14).upd e15)
                          clear e2 e8 e10 e13 e14 e15
                          refine J_block ?_
                          refine J_loop (fun k σ w => vS (σ 2) fun x2A x2n x2c => vP (σ 8) fun x8 => vP (σ 10) fun x10 => vB (σ 13) fun x13 => vPa (σ 14) fun x14 => vI .i64 (σ 15) fun x15 => law12_HandleFrom.l1 K k x2A x2n x2c x8 x10 x13 x14 x15 w) (Eq.mp (by kernel_rfl) h) ?_ ?_
                          · intro σ w h
                            obtain ⟨x2A, x2n, x2c, e2, h⟩ := vS_elim h
                            obtain ⟨x8, e8, h⟩ := vP_elim h
                            obtain ⟨x10, e10, h⟩ := vP_elim h
                            obtain ⟨x13, e13, h⟩ := vB_elim h
                            obtain ⟨x14, e14, h⟩ := vPa_elim h
                            obtain ⟨x15, e15, h⟩ := vI_elim h
                            exact h
                          · intro k1 σ w h
                            obtain ⟨x2A, x2n, x2c, e2, h⟩ := vS_elim h
                            obtain ⟨x8, e8, h⟩ := vP_elim h
                            obtain ⟨x10, e10, h⟩ := vP_elim h
                            obtain ⟨x13, e13, h⟩ := vB_elim h
                            obtain ⟨x14, e14, h⟩ := vPa_elim h
                            obtain ⟨x15, e15, h⟩ := vI_elim h
                            refine J.sub ?_ (((((((Sub.base _).upd e2).upd e8).upd e10).upd e13).upd e14).upd e15)
                            clear e2 e8 e10 e13 e14 e15
                            refine J_seq (fun σ w => vS (σ 2) fun x2A x2n x2c => vP (σ 8) fun x8 => vP (σ 10) fun x10 => vPa (σ 14) fun x14 => vI .i64 (σ 15) fun x15 => law12_HandleFrom.p14 (law12_HandleFrom.l1 K k1) K x2A x2n x2c x8 x10 x14 x15 w) ?_ ?_
                            ·
                              refine J_seq (fun σ w => vS (σ 2) fun x2A x2n x2c => vP (σ 8) fun x8 => vP (σ 10) fun x10 => vB (σ 13) fun x13 => vPa (σ 14) fun x14 => vI .i64 (σ 15) fun x15 => vB (σ 77) fun x77 => law12_HandleFrom.p13 (law12_HandleFrom.l1 K k1) K x2A x2n x2c x8 x10 x13 x14 x15 x77 w) ?_ ?_
                              ·
                                exact sh_sound _ _ _ _ (Eq.mp (by kernel_rfl) h)
                              · intro σ w h
                                obtain ⟨x2A, x2n, x2c, e2, h⟩ := vS_elim h
                                obtain ⟨x8, e8, h⟩ := vP_elim h
                                obtain ⟨x10, e10, h⟩ := vP_elim h
                                obtain ⟨x13, e13, h⟩ := vB_elim h
                                obtain ⟨x14, e14, h⟩ := vPa_elim h
                                obtain ⟨x15, e15, h⟩ := vI_elim h
                                obtain ⟨x77, e77, h⟩ := vB_elim h
                                refine J.sub ?_ ((((((((Sub.base _).upd e2).upd e8).upd e10).upd e13).upd e14).upd e15).upd e77)
                                clear e2 e8 e10 e13 e14 e15 e77
                                exact sh_sound _ _ _ _ (Eq.mp (by kernel_rfl) h)
                            · intro σ w h
                              obtain ⟨x2A, x2n, x2c, e2, h⟩ := vS_elim h
                              obtain ⟨x8, e8, h⟩ := vP_elim h
                              obtain ⟨x10, e10, h⟩ := vP_elim h
                              obtain ⟨x14, e14, h⟩ := vPa_elim h
                              obtain ⟨x15, e15, h⟩ := vI_elim h
                              refine J.sub ?_ ((((((Sub.base _).upd e2).upd e8).upd e10).upd e14).upd e15)
                              clear e2 e8 e10 e14 e15
                              exact sh_sound _ _ _ _ (Eq.mp (by kernel_rfl) h)
                      · intro σ w h
                        obtain ⟨x8, e8, h⟩ := vP_elim h
                        obtain ⟨x10, e10, h⟩ := vP_elim h
                        obtain ⟨x13, e13, h⟩ := vB_elim h
                        refine J.sub ?_ ((((Sub.base _).upd e8).upd e10).upd e13)
                        clear e8 e10 e13
                        refine J_seq (fun σ w => vB (σ 6) fun x6 => law12_HandleFrom.p16 K x6 w) ?_ ?_
                        ·
                          exact sh_sound _ _ _ _ (Eq.mp (by kernel_rfl) h)
                        · intro σ w h
                          obtain ⟨x6, e6, h⟩ := vB_elim h
                          refine J.sub ?_ ((Sub.base _).upd e6)
                          clear e6
                          exact sh_sound _ _ _ _ (Eq.mp (by kernel_rfl) h)

/-! ### hayloft/hayloftlaw12.HandleNil: function 9 -/
abbrev law12_HandleNil.p4 (K : Value → World → Prop) (x4 : Bool) (w : World) : Prop :=
  K (.bool x4) w
abbrev law12_HandleNil.p3 (K : Value → World → Prop) (x0 : Int) (x1 : Int) (x5 : Option Addr) (x6 : Int) (x7 : Int) (x8 : Int) (x9 : Int) (x10 : Int) (w : World) : Prop :=
  CallsE Try.prog 10 #[] w (fun v10 w11 => ∃ (b12 : Bool), v10 = .bool b12 ∧ condP b12 (condP (x6 == (0 : Int)) (condP (x7 == (1 : Int)) (condP (x8 == (0 : Int)) (condP (x9 == (0 : Int)) (condP (x10 == (1 : Int)) (CallsE Try.prog 20 #[.pointer x5, .int .u64 x0, .int .i64 x1] w11 (fun v13 w14 => ∃ (n15 : Int), v13 = .int .i64 n15 ∧ condP (n15 == (1 : Int)) (CallsE Try.prog 15 #[.pointer x5, .int .u64 x0] w14 (fun v16 w17 => ∃ (n18 : Int), v16 = .int .i64 n18 ∧ condP (n18 == (1 : Int)) (CallsE Try.prog 25 #[.pointer x5] w17 (fun v19 w20 => ∃ (A21 : Option Addr) (m22 : Nat) (c23 : Nat), v19 = .slice A21 m22 c23 ∧ CallsE Try.prog 14 #[.pointer x5] w20 (fun v24 w25 => ∃ (A26 : Option Addr) (m27 : Nat) (c28 : Nat), v24 = .slice A26 m27 c28 ∧ condP ((IntKind.wrap .i64 (((m22 : Nat) : Int) + ((m27 : Nat) : Int))) == (0 : Int)) (CallsE Try.prog 16 #[.pointer x5] w25 (fun v29 w30 => ∃ (b31 : Bool), v29 = .bool b31 ∧ law12_HandleNil.p4 K b31 w30)) (law12_HandleNil.p4 K false w25)))) (law12_HandleNil.p4 K false w17))) (law12_HandleNil.p4 K false w14))) (law12_HandleNil.p4 K false w11)) (law12_HandleNil.p4 K false w11)) (law12_HandleNil.p4 K false w11)) (law12_HandleNil.p4 K false w11)) (law12_HandleNil.p4 K false w11)) (law12_HandleNil.p4 K false w11))
abbrev law12_HandleNil.p2 (K : Value → World → Prop) (x0 : Int) (x1 : Int) (x5 : Option Addr) (x6 : Int) (x7 : Int) (w : World) : Prop :=
  CallsE Try.prog 19 #[.pointer x5, .int .u64 x0] w (fun v5 w6 => ∃ (n7 : Int) (n8 : Int) (n9 : Int), v5 = .tuple #[.int .i64 n7, .int .i64 n8, .int .i64 n9] ∧ law12_HandleNil.p3 K x0 x1 x5 x6 x7 n7 n8 n9 w6)
abbrev law12_HandleNil.p1 (K : Value → World → Prop) (x0 : Int) (x1 : Int) (x5 : Option Addr) (w : World) : Prop :=
  CallsE Try.prog 17 #[.pointer x5, .int .i64 x1, .int .i64 x1] w (fun v1 w2 => ∃ (n3 : Int) (n4 : Int), v1 = .tuple #[.int .u64 n3, .int .i64 n4] ∧ law12_HandleNil.p2 K x0 x1 x5 n3 n4 w2)
abbrev law12_HandleNil.p0 (K : Value → World → Prop) (x0 : Int) (x1 : Int) (w : World) : Prop :=
  law12_HandleNil.p1 K x0 x1 none w
abbrev law12_HandleNil.F (q0 : Int) (q1 : Int) (K : Value → World → Prop) (w : World) : Prop :=
  law12_HandleNil.p0 K q0 q1 w
theorem law12_HandleNil.ok {q0 : Int} {q1 : Int} {K : Value → World → Prop} {w : World} (h : law12_HandleNil.F q0 q1 K w) :
    CallsE Try.prog 9 #[.int .u64 q0, .int .i64 q1] w K := by
  refine calls_of_J (n := 73) (rs := [.tmp 4]) Try.func9 rfl rfl rfl rfl ?_
  refine J_seq (fun σ w => vI .u64 (σ 0) fun x0 => vI .i64 (σ 1) fun x1 => law12_HandleNil.p0 K x0 x1 w) ?_ ?_
  ·
    exact sh_sound _ _ _ _ (Eq.mp (by kernel_rfl) h)
  · intro σ w h
    obtain ⟨x0, e0, h⟩ := vI_elim h
    obtain ⟨x1, e1, h⟩ := vI_elim h
    refine J.sub ?_ (((Sub.base _).upd e0).upd e1)
    clear e0 e1
    refine J_seq (fun σ w => vI .u64 (σ 0) fun x0 => vI .i64 (σ 1) fun x1 => vP (σ 5) fun x5 => law12_HandleNil.p1 K x0 x1 x5 w) ?_ ?_
    ·
      exact sh_sound _ _ _ _ (Eq.mp (by kernel_rfl) h)
    · intro σ w h
      obtain ⟨x0, e0, h⟩ := vI_elim h
      obtain ⟨x1, e1, h⟩ := vI_elim h
      obtain ⟨x5, e5, h⟩ := vP_elim h
      refine J.sub ?_ ((((Sub.base _).upd e0).upd e1).upd e5)
      clear e0 e1 e5
      refine J_seq (fun σ w => vI .u64 (σ 0) fun x0 => vI .i64 (σ 1) fun x1 => vP (σ 5) fun x5 => vI .u64 (σ 6) fun x6 => vI .i64 (σ 7) fun x7 => law12_HandleNil.p2 K x0 x1 x5 x6 x7 w) ?_ ?_
      ·
        exact sh_sound _ _ _ _ (Eq.mp (by kernel_rfl) h)
      · intro σ w h
        obtain ⟨x0, e0, h⟩ := vI_elim h
        obtain ⟨x1, e1, h⟩ := vI_elim h
        obtain ⟨x5, e5, h⟩ := vP_elim h
        obtain ⟨x6, e6, h⟩ := vI_elim h
        obtain ⟨x7, e7, h⟩ := vI_elim h
        refine J.sub ?_ ((((((Sub.base _).upd e0).upd e1).upd e5).upd e6).upd e7)
        clear e0 e1 e5 e6 e7
        refine J_seq (fun σ w => vI .u64 (σ 0) fun x0 => vI .i64 (σ 1) fun x1 => vP (σ 5) fun x5 => vI .u64 (σ 6) fun x6 => vI .i64 (σ 7) fun x7 => vI .i64 (σ 8) fun x8 => vI .i64 (σ 9) fun x9 => vI .i64 (σ 10) fun x10 => law12_HandleNil.p3 K x0 x1 x5 x6 x7 x8 x9 x10 w) ?_ ?_
        ·
          exact sh_sound _ _ _ _ (Eq.mp (by kernel_rfl) h)
        · intro σ w h
          obtain ⟨x0, e0, h⟩ := vI_elim h
          obtain ⟨x1, e1, h⟩ := vI_elim h
          obtain ⟨x5, e5, h⟩ := vP_elim h
          obtain ⟨x6, e6, h⟩ := vI_elim h
          obtain ⟨x7, e7, h⟩ := vI_elim h
          obtain ⟨x8, e8, h⟩ := vI_elim h
          obtain ⟨x9, e9, h⟩ := vI_elim h
          obtain ⟨x10, e10, h⟩ := vI_elim h
          refine J.sub ?_ (((((((((Sub.base _).upd e0).upd e1).upd e5).upd e6).upd e7).upd e8).upd e9).upd e10)
          clear e0 e1 e5 e6 e7 e8 e9 e10
          refine J_seq (fun σ w => vB (σ 4) fun x4 => law12_HandleNil.p4 K x4 w) ?_ ?_
          ·
            exact sh_sound _ _ _ _ (Eq.mp (by kernel_rfl) h)
          · intro σ w h
            obtain ⟨x4, e4, h⟩ := vB_elim h
            refine J.sub ?_ ((Sub.base _).upd e4)
            clear e4
            exact sh_sound _ _ _ _ (Eq.mp (by kernel_rfl) h)

/-! ### hayloft/hayloftlaw12.alive: function 10 -/
abbrev law12_alive.p8 (K : Value → World → Prop) (x0 : Bool) (w : World) : Prop :=
  K (.bool x0) w
abbrev law12_alive.p7 (K : Value → World → Prop) (x1 : Option Addr) (x3 : Int) (x5 : Int) (x8 : Int) (x9 : Int) (x10 : Int) (w : World) : Prop :=
  condP (x3 == (65537 : Int)) (condP (x5 == (65538 : Int)) (condP (x8 == (7 : Int)) (condP (x9 == (3 : Int)) (condP (x10 == (4 : Int)) (CallsE Try.prog 15 #[.pointer x1, .int .u64 x3] w (fun v22 w23 => ∃ (n24 : Int), v22 = .int .i64 n24 ∧ condP (n24 == (0 : Int)) (CallsE Try.prog 11 #[.int .i64 1, .int .i64 2] w23 (fun v25 w26 => ∃ (n27 : Int), v25 = .int .u64 n27 ∧ law12_alive.p8 K (n27 == (131073 : Int)) w26)) (law12_alive.p8 K false w23))) (law12_alive.p8 K false w)) (law12_alive.p8 K false w)) (law12_alive.p8 K false w)) (law12_alive.p8 K false w)) (law12_alive.p8 K false w)
abbrev law12_alive.p6 (K : Value → World → Prop) (x1 : Option Addr) (x3 : Int) (x5 : Int) (x8 : Int) (w : World) : Prop :=
  CallsE Try.prog 19 #[.pointer x1, .int .u64 x5] w (fun v17 w18 => ∃ (n19 : Int) (n20 : Int) (n21 : Int), v17 = .tuple #[.int .i64 n19, .int .i64 n20, .int .i64 n21] ∧ law12_alive.p7 K x1 x3 x5 x8 n19 n20 w18)
abbrev law12_alive.p5 (K : Value → World → Prop) (x1 : Option Addr) (x3 : Int) (x5 : Int) (w : World) : Prop :=
  CallsE Try.prog 17 #[.pointer x1, .int .i64 5, .int .i64 6] w (fun v13 w14 => ∃ (n15 : Int) (n16 : Int), v13 = .tuple #[.int .u64 n15, .int .i64 n16] ∧ law12_alive.p6 K x1 x3 x5 n16 w14)
abbrev law12_alive.p4 (K : Value → World → Prop) (x1 : Option Addr) (x3 : Int) (w : World) : Prop :=
  CallsE Try.prog 17 #[.pointer x1, .int .i64 3, .int .i64 4] w (fun v9 w10 => ∃ (n11 : Int) (n12 : Int), v9 = .tuple #[.int .u64 n11, .int .i64 n12] ∧ law12_alive.p5 K x1 x3 n11 w10)
abbrev law12_alive.p3 (K : Value → World → Prop) (x1 : Option Addr) (w : World) : Prop :=
  CallsE Try.prog 17 #[.pointer x1, .int .i64 1, .int .i64 2] w (fun v5 w6 => ∃ (n7 : Int) (n8 : Int), v5 = .tuple #[.int .u64 n7, .int .i64 n8] ∧ law12_alive.p4 K x1 n7 w6)
abbrev law12_alive.p2 (K : Value → World → Prop) (x1 : Option Addr) (x21 : Bool) (w : World) : Prop :=
  condP x21 (K (.bool false) w) (law12_alive.p3 K x1 w)
abbrev law12_alive.p1 (K : Value → World → Prop) (x1 : Option Addr) (x2 : Int) (w : World) : Prop :=
  condP (x2 != (0 : Int)) (law12_alive.p2 K x1 true w) (law12_alive.p2 K x1 x1.isNone w)
abbrev law12_alive.p0 (K : Value → World → Prop) (w : World) : Prop :=
  CallsE Try.prog 18 #[.int .i64 2] w (fun v1 w2 => ∃ (p3 : Option Addr) (n4 : Int), v1 = .tuple #[.pointer p3, .int .i64 n4] ∧ law12_alive.p1 K p3 n4 w2)
abbrev law12_alive.F (K : Value → World → Prop) (w : World) : Prop :=
  law12_alive.p0 K w
theorem law12_alive.ok {K : Value → World → Prop} {w : World} (h : law12_alive.F K w) :
    CallsE Try.prog 10 #[] w K := by
  refine calls_of_J (n := 72) (rs := [.tmp 0]) Try.func10 rfl rfl rfl rfl ?_
  refine J_seq (fun σ w => law12_alive.p0 K w) ?_ ?_
  ·
    exact sh_sound _ _ _ _ (Eq.mp (by kernel_rfl) h)
  · intro σ w h
    refine J.sub ?_ (Sub.base _)
    refine J_seq (fun σ w => vP (σ 1) fun x1 => vI .i64 (σ 2) fun x2 => law12_alive.p1 K x1 x2 w) ?_ ?_
    ·
      exact sh_sound _ _ _ _ (Eq.mp (by kernel_rfl) h)
    · intro σ w h
      obtain ⟨x1, e1, h⟩ := vP_elim h
      obtain ⟨x2, e2, h⟩ := vI_elim h
      refine J.sub ?_ (((Sub.base _).upd e1).upd e2)
      clear e1 e2
      refine J_seq (fun σ w => vP (σ 1) fun x1 => law12_alive.p3 K x1 w) ?_ ?_
      ·
        refine J_seq (fun σ w => vP (σ 1) fun x1 => vB (σ 21) fun x21 => law12_alive.p2 K x1 x21 w) ?_ ?_
        ·
          exact sh_sound _ _ _ _ (Eq.mp (by kernel_rfl) h)
        · intro σ w h
          obtain ⟨x1, e1, h⟩ := vP_elim h
          obtain ⟨x21, e21, h⟩ := vB_elim h
          refine J.sub ?_ (((Sub.base _).upd e1).upd e21)
          clear e1 e21
          exact sh_sound _ _ _ _ (Eq.mp (by kernel_rfl) h)
      · intro σ w h
        obtain ⟨x1, e1, h⟩ := vP_elim h
        refine J.sub ?_ ((Sub.base _).upd e1)
        clear e1
        refine J_seq (fun σ w => vP (σ 1) fun x1 => vI .u64 (σ 3) fun x3 => law12_alive.p4 K x1 x3 w) ?_ ?_
        ·
          exact sh_sound _ _ _ _ (Eq.mp (by kernel_rfl) h)
        · intro σ w h
          obtain ⟨x1, e1, h⟩ := vP_elim h
          obtain ⟨x3, e3, h⟩ := vI_elim h
          refine J.sub ?_ (((Sub.base _).upd e1).upd e3)
          clear e1 e3
          refine J_seq (fun σ w => vP (σ 1) fun x1 => vI .u64 (σ 3) fun x3 => vI .u64 (σ 5) fun x5 => law12_alive.p5 K x1 x3 x5 w) ?_ ?_
          ·
            exact sh_sound _ _ _ _ (Eq.mp (by kernel_rfl) h)
          · intro σ w h
            obtain ⟨x1, e1, h⟩ := vP_elim h
            obtain ⟨x3, e3, h⟩ := vI_elim h
            obtain ⟨x5, e5, h⟩ := vI_elim h
            refine J.sub ?_ ((((Sub.base _).upd e1).upd e3).upd e5)
            clear e1 e3 e5
            refine J_seq (fun σ w => vP (σ 1) fun x1 => vI .u64 (σ 3) fun x3 => vI .u64 (σ 5) fun x5 => vI .i64 (σ 8) fun x8 => law12_alive.p6 K x1 x3 x5 x8 w) ?_ ?_
            ·
              exact sh_sound _ _ _ _ (Eq.mp (by kernel_rfl) h)
            · intro σ w h
              obtain ⟨x1, e1, h⟩ := vP_elim h
              obtain ⟨x3, e3, h⟩ := vI_elim h
              obtain ⟨x5, e5, h⟩ := vI_elim h
              obtain ⟨x8, e8, h⟩ := vI_elim h
              refine J.sub ?_ (((((Sub.base _).upd e1).upd e3).upd e5).upd e8)
              clear e1 e3 e5 e8
              refine J_seq (fun σ w => vP (σ 1) fun x1 => vI .u64 (σ 3) fun x3 => vI .u64 (σ 5) fun x5 => vI .i64 (σ 8) fun x8 => vI .i64 (σ 9) fun x9 => vI .i64 (σ 10) fun x10 => law12_alive.p7 K x1 x3 x5 x8 x9 x10 w) ?_ ?_
              ·
                exact sh_sound _ _ _ _ (Eq.mp (by kernel_rfl) h)
              · intro σ w h
                obtain ⟨x1, e1, h⟩ := vP_elim h
                obtain ⟨x3, e3, h⟩ := vI_elim h
                obtain ⟨x5, e5, h⟩ := vI_elim h
                obtain ⟨x8, e8, h⟩ := vI_elim h
                obtain ⟨x9, e9, h⟩ := vI_elim h
                obtain ⟨x10, e10, h⟩ := vI_elim h
                refine J.sub ?_ (((((((Sub.base _).upd e1).upd e3).upd e5).upd e8).upd e9).upd e10)
                clear e1 e3 e5 e8 e9 e10
                refine J_seq (fun σ w => vB (σ 0) fun x0 => law12_alive.p8 K x0 w) ?_ ?_
                ·
                  exact sh_sound _ _ _ _ (Eq.mp (by kernel_rfl) h)
                · intro σ w h
                  obtain ⟨x0, e0, h⟩ := vB_elim h
                  refine J.sub ?_ ((Sub.base _).upd e0)
                  clear e0
                  exact sh_sound _ _ _ _ (Eq.mp (by kernel_rfl) h)

/-! ### hayloft/handle.Of: function 11 -/
abbrev handle_Of.p2 (K : Value → World → Prop) (x0 : Int) (x1 : Int) (w : World) : Prop :=
  0 ≤ (16 : Int) ∧ K (.int .u64 (ibits .or .u64 (ishl .u64 (IntKind.wrap .u64 x1) 16) (IntKind.wrap .u64 x0))) w
abbrev handle_Of.p1 (K : Value → World → Prop) (x0 : Int) (x1 : Int) (x18 : Bool) (w : World) : Prop :=
  condP x18 (K (.int .u64 0) w) (handle_Of.p2 K x0 x1 w)
abbrev handle_Of.p0 (K : Value → World → Prop) (x0 : Int) (x1 : Int) (w : World) : Prop :=
  condP (decide (x0 < (1 : Int))) (handle_Of.p1 K x0 x1 true w) (condP (decide ((4096 : Int) < x0)) (handle_Of.p1 K x0 x1 true w) (condP (decide (x1 < (1 : Int))) (handle_Of.p1 K x0 x1 true w) (handle_Of.p1 K x0 x1 (decide ((65535 : Int) < x1)) w)))
abbrev handle_Of.F (q0 : Int) (q1 : Int) (K : Value → World → Prop) (w : World) : Prop :=
  handle_Of.p0 K q0 q1 w
theorem handle_Of.ok {q0 : Int} {q1 : Int} {K : Value → World → Prop} {w : World} (h : handle_Of.F q0 q1 K w) :
    CallsE Try.prog 11 #[.int .i64 q0, .int .i64 q1] w K := by
  refine calls_of_J (n := 25) (rs := [.tmp 4]) Try.func11 rfl rfl rfl rfl ?_
  refine J_seq (fun σ w => vI .i64 (σ 0) fun x0 => vI .i64 (σ 1) fun x1 => handle_Of.p0 K x0 x1 w) ?_ ?_
  ·
    exact sh_sound _ _ _ _ (Eq.mp (by kernel_rfl) h)
  · intro σ w h
    obtain ⟨x0, e0, h⟩ := vI_elim h
    obtain ⟨x1, e1, h⟩ := vI_elim h
    refine J.sub ?_ (((Sub.base _).upd e0).upd e1)
    clear e0 e1
    refine J_seq (fun σ w => vI .i64 (σ 0) fun x0 => vI .i64 (σ 1) fun x1 => handle_Of.p2 K x0 x1 w) ?_ ?_
    ·
      refine J_seq (fun σ w => vI .i64 (σ 0) fun x0 => vI .i64 (σ 1) fun x1 => vB (σ 18) fun x18 => handle_Of.p1 K x0 x1 x18 w) ?_ ?_
      ·
        exact sh_sound _ _ _ _ (Eq.mp (by kernel_rfl) h)
      · intro σ w h
        obtain ⟨x0, e0, h⟩ := vI_elim h
        obtain ⟨x1, e1, h⟩ := vI_elim h
        obtain ⟨x18, e18, h⟩ := vB_elim h
        refine J.sub ?_ ((((Sub.base _).upd e0).upd e1).upd e18)
        clear e0 e1 e18
        exact sh_sound _ _ _ _ (Eq.mp (by kernel_rfl) h)
    · intro σ w h
      obtain ⟨x0, e0, h⟩ := vI_elim h
      obtain ⟨x1, e1, h⟩ := vI_elim h
      refine J.sub ?_ (((Sub.base _).upd e0).upd e1)
      clear e0 e1
      exact sh_sound _ _ _ _ (Eq.mp (by kernel_rfl) h)

/-! ### hayloft/hayloftref12.Of: function 12 -/
abbrev ref12_Of.p2 (K : Value → World → Prop) (x0 : Int) (x1 : Int) (w : World) : Prop :=
  K (.int .u64 (IntKind.wrap .u64 (IntKind.wrap .i64 (x0 + (IntKind.wrap .i64 ((65536 : Int) * x1)))))) w
abbrev ref12_Of.p1 (K : Value → World → Prop) (x0 : Int) (x1 : Int) (x18 : Bool) (w : World) : Prop :=
  condP x18 (K (.int .u64 0) w) (ref12_Of.p2 K x0 x1 w)
abbrev ref12_Of.p0 (K : Value → World → Prop) (x0 : Int) (x1 : Int) (w : World) : Prop :=
  condP (decide (x0 < (1 : Int))) (ref12_Of.p1 K x0 x1 true w) (condP (decide ((4096 : Int) < x0)) (ref12_Of.p1 K x0 x1 true w) (condP (decide (x1 < (1 : Int))) (ref12_Of.p1 K x0 x1 true w) (ref12_Of.p1 K x0 x1 (decide ((65535 : Int) < x1)) w)))
abbrev ref12_Of.F (q0 : Int) (q1 : Int) (K : Value → World → Prop) (w : World) : Prop :=
  ref12_Of.p0 K q0 q1 w
theorem ref12_Of.ok {q0 : Int} {q1 : Int} {K : Value → World → Prop} {w : World} (h : ref12_Of.F q0 q1 K w) :
    CallsE Try.prog 12 #[.int .i64 q0, .int .i64 q1] w K := by
  refine calls_of_J (n := 24) (rs := [.tmp 4]) Try.func12 rfl rfl rfl rfl ?_
  refine J_seq (fun σ w => vI .i64 (σ 0) fun x0 => vI .i64 (σ 1) fun x1 => ref12_Of.p0 K x0 x1 w) ?_ ?_
  ·
    exact sh_sound _ _ _ _ (Eq.mp (by kernel_rfl) h)
  · intro σ w h
    obtain ⟨x0, e0, h⟩ := vI_elim h
    obtain ⟨x1, e1, h⟩ := vI_elim h
    refine J.sub ?_ (((Sub.base _).upd e0).upd e1)
    clear e0 e1
    refine J_seq (fun σ w => vI .i64 (σ 0) fun x0 => vI .i64 (σ 1) fun x1 => ref12_Of.p2 K x0 x1 w) ?_ ?_
    ·
      refine J_seq (fun σ w => vI .i64 (σ 0) fun x0 => vI .i64 (σ 1) fun x1 => vB (σ 18) fun x18 => ref12_Of.p1 K x0 x1 x18 w) ?_ ?_
      ·
        exact sh_sound _ _ _ _ (Eq.mp (by kernel_rfl) h)
      · intro σ w h
        obtain ⟨x0, e0, h⟩ := vI_elim h
        obtain ⟨x1, e1, h⟩ := vI_elim h
        obtain ⟨x18, e18, h⟩ := vB_elim h
        refine J.sub ?_ ((((Sub.base _).upd e0).upd e1).upd e18)
        clear e0 e1 e18
        exact sh_sound _ _ _ _ (Eq.mp (by kernel_rfl) h)
    · intro σ w h
      obtain ⟨x0, e0, h⟩ := vI_elim h
      obtain ⟨x1, e1, h⟩ := vI_elim h
      refine J.sub ?_ (((Sub.base _).upd e0).upd e1)
      clear e0 e1
      exact sh_sound _ _ _ _ (Eq.mp (by kernel_rfl) h)

/-! ### hayloft/handle.From: function 13 -/
abbrev handle_From.p7 (K : Value → World → Prop) (x0 : Int) (x1A : Option Addr) (x1n : Nat) (x1c : Nat) (w : World) : Prop :=
  wlet (w.alloc (.cells #[] 33)) fun w18 => SemJ Try.prog (Builtin.append_ #[30, 30] 30 #[.slice (some ⟨w.heap.size, 0, none⟩) 0 0, .slice x1A x1n x1c]) (fun v19 w20 => ∃ (A21 : Option Addr) (m22 : Nat) (c23 : Nat), v19 = .slice A21 m22 c23 ∧ wlet (w20.alloc (.cells #[.int .i64 x0, .slice A21 m22 c23] 66)) fun w24 => K (.tuple #[.pointer (some (⟨w20.heap.size, 0, none⟩)), .int .i64 0]) w24) w18
abbrev handle_From.b0 (L0 : Int → Option Addr → Nat → Nat → Option Addr → Nat → Nat → Int → Int → World → Prop) (K : Value → World → Prop) (x0 : Int) (x1A : Option Addr) (x1n : Nat) (x1c : Nat) (x33A : Option Addr) (x33n : Nat) (x33c : Nat) (x34 : Int) (x35 : Int) (w : World) : Prop :=
  condP (decide (x35 < x34)) ((0 ≤ x35 ∧ x35 < ((x33n : Nat) : Int)) ∧ ∃ (a1 : Addr), x33A = some a1 ∧ ∃ (n2 : Int), w.cell? (a1.add (x35.toNat * 4)) = some (.int .i64 n2) ∧ ∃ (b3 : Bool), w.cell? ((a1.add (x35.toNat * 4)).add 1) = some (.bool b3) ∧ ∃ (n4 : Int), w.cell? ((a1.add (x35.toNat * 4)).add 2) = some (.int .i64 n4) ∧ ∃ (n5 : Int), w.cell? ((a1.add (x35.toNat * 4)).add 3) = some (.int .i64 n5) ∧ wlet (w.alloc (.cells #[.int .i64 0, .bool false, .int .i64 0, .int .i64 0] 33)) fun w6 => canStore w6 (⟨w.heap.size, 0, none⟩) ∧ wlet (w6.setCell (⟨w.heap.size, 0, none⟩) (.int .i64 n2)) fun w7 => canStore w7 (⟨w.heap.size, 1, none⟩) ∧ wlet (w7.setCell (⟨w.heap.size, 1, none⟩) (.bool b3)) fun w8 => canStore w8 (⟨w.heap.size, 2, none⟩) ∧ wlet (w8.setCell (⟨w.heap.size, 2, none⟩) (.int .i64 n4)) fun w9 => canStore w9 (⟨w.heap.size, 3, none⟩) ∧ wlet (w9.setCell (⟨w.heap.size, 3, none⟩) (.int .i64 n5)) fun w10 => ∃ (n11 : Int), w10.cell? (⟨w.heap.size, 0, none⟩) = some (.int .i64 n11) ∧ ∃ (b12 : Bool), w10.cell? (⟨w.heap.size, 1, none⟩) = some (.bool b12) ∧ ∃ (n13 : Int), w10.cell? (⟨w.heap.size, 2, none⟩) = some (.int .i64 n13) ∧ ∃ (n14 : Int), w10.cell? (⟨w.heap.size, 3, none⟩) = some (.int .i64 n14) ∧ CallsE Try.prog 27 #[.agg #[.int .i64 n11, .bool b12, .int .i64 n13, .int .i64 n14]] w10 (fun v15 w16 => ∃ (b17 : Bool), v15 = .bool b17 ∧ condP (!b17) (K (.tuple #[.pointer none, .int .i64 4]) w16) (L0 x0 x1A x1n x1c x33A x33n x33c x34 (IntKind.wrap .i64 (x35 + (1 : Int))) w16))) (handle_From.p7 K x0 x1A x1n x1c w)
def handle_From.l0 (K : Value → World → Prop) (k : Nat) : Int → Option Addr → Nat → Nat → Option Addr → Nat → Nat → Int → Int → World → Prop :=
  Nat.rec (motive := fun _ => Int → Option Addr → Nat → Nat → Option Addr → Nat → Nat → Int → Int → World → Prop) (fun _ _ _ _ _ _ _ _ _ _ => False) (fun _ ih => handle_From.b0 ih K) k
theorem handle_From.l0_succ (K : Value → World → Prop) (k : Nat) (x0 : Int) (x1A : Option Addr) (x1n : Nat) (x1c : Nat) (x33A : Option Addr) (x33n : Nat) (x33c : Nat) (x34 : Int) (x35 : Int) (w : World) : handle_From.l0 K (k + 1) x0 x1A x1n x1c x33A x33n x33c x34 x35 w = handle_From.b0 (handle_From.l0 K k) K x0 x1A x1n x1c x33A x33n x33c x34 x35 w := rfl
abbrev handle_From.p6 (K : Value → World → Prop) (x0 : Int) (x1A : Option Addr) (x1n : Nat) (x1c : Nat) (x33A : Option Addr) (x33n : Nat) (x33c : Nat) (x34 : Int) (x35 : Int) (w : World) : Prop :=
  ∃ k, handle_From.l0 K k x0 x1A x1n x1c x33A x33n x33c x34 x35 w
abbrev handle_From.p5 (K : Value → World → Prop) (x0 : Int) (x1A : Option Addr) (x1n : Nat) (x1c : Nat) (w : World) : Prop :=
  handle_From.p6 K x0 x1A x1n x1c x1A x1n x1c ((x1n : Nat) : Int) 0 w
abbrev handle_From.p4 (K : Value → World → Prop) (x0 : Int) (x1A : Option Addr) (x1n : Nat) (x1c : Nat) (x32 : Bool) (w : World) : Prop :=
  condP x32 (K (.tuple #[.pointer none, .int .i64 4]) w) (handle_From.p5 K x0 x1A x1n x1c w)
abbrev handle_From.p3 (K : Value → World → Prop) (x0 : Int) (x1A : Option Addr) (x1n : Nat) (x1c : Nat) (x6 : Int) (w : World) : Prop :=
  condP (decide (x0 < x6)) (handle_From.p4 K x0 x1A x1n x1c true w) (condP (decide ((0 : Int) < x6)) ((0 ≤ (IntKind.wrap .i64 (x6 - (1 : Int))) ∧ (IntKind.wrap .i64 (x6 - (1 : Int))) < ((x1n : Nat) : Int)) ∧ ∃ (a25 : Addr), x1A = some a25 ∧ ∃ (n26 : Int), w.cell? (a25.add ((IntKind.wrap .i64 (x6 - (1 : Int))).toNat * 4)) = some (.int .i64 n26) ∧ handle_From.p4 K x0 x1A x1n x1c (n26 == (0 : Int)) w) (handle_From.p4 K x0 x1A x1n x1c false w))
abbrev handle_From.p2 (K : Value → World → Prop) (x0 : Int) (x1A : Option Addr) (x1n : Nat) (x1c : Nat) (w : World) : Prop :=
  handle_From.p3 K x0 x1A x1n x1c ((x1n : Nat) : Int) w
abbrev handle_From.p1 (K : Value → World → Prop) (x0 : Int) (x1A : Option Addr) (x1n : Nat) (x1c : Nat) (x14 : Bool) (w : World) : Prop :=
  condP x14 (K (.tuple #[.pointer none, .int .i64 2]) w) (handle_From.p2 K x0 x1A x1n x1c w)
abbrev handle_From.p0 (K : Value → World → Prop) (x0 : Int) (x1A : Option Addr) (x1n : Nat) (x1c : Nat) (w : World) : Prop :=
  condP (decide (x0 < (1 : Int))) (handle_From.p1 K x0 x1A x1n x1c true w) (handle_From.p1 K x0 x1A x1n x1c (decide ((4096 : Int) < x0)) w)
abbrev handle_From.F (q0 : Int) (q1A : Option Addr) (q1n : Nat) (q1c : Nat) (K : Value → World → Prop) (w : World) : Prop :=
  handle_From.p0 K q0 q1A q1n q1c w
theorem handle_From.ok {q0 : Int} {q1A : Option Addr} {q1n : Nat} {q1c : Nat} {K : Value → World → Prop} {w : World} (h : handle_From.F q0 q1A q1n q1c K w) :
    CallsE Try.prog 13 #[.int .i64 q0, .slice q1A q1n q1c] w K := by
  refine calls_of_J (n := 49) (rs := [.tmp 4, .tmp 5]) Try.func13 rfl rfl rfl rfl ?_
  refine J_seq (fun σ w => vI .i64 (σ 0) fun x0 => vS (σ 1) fun x1A x1n x1c => handle_From.p0 K x0 x1A x1n x1c w) ?_ ?_
  ·
    exact sh_sound _ _ _ _ (Eq.mp (by kernel_rfl) h)
  · intro σ w h
    obtain ⟨x0, e0, h⟩ := vI_elim h
    obtain ⟨x1A, x1n, x1c, e1, h⟩ := vS_elim h
    refine J.sub ?_ (((Sub.base _).upd e0).upd e1)
    clear e0 e1
    refine J_seq (fun σ w => vI .i64 (σ 0) fun x0 => vS (σ 1) fun x1A x1n x1c => handle_From.p2 K x0 x1A x1n x1c w) ?_ ?_
    ·
      refine J_seq (fun σ w => vI .i64 (σ 0) fun x0 => vS (σ 1) fun x1A x1n x1c => vB (σ 14) fun x14 => handle_From.p1 K x0 x1A x1n x1c x14 w) ?_ ?_
      ·
        exact sh_sound _ _ _ _ (Eq.mp (by kernel_rfl) h)
      · intro σ w h
        obtain ⟨x0, e0, h⟩ := vI_elim h
        obtain ⟨x1A, x1n, x1c, e1, h⟩ := vS_elim h
        obtain ⟨x14, e14, h⟩ := vB_elim h
        refine J.sub ?_ ((((Sub.base _).upd e0).upd e1).upd e14)
        clear e0 e1 e14
        exact sh_sound _ _ _ _ (Eq.mp (by kernel_rfl) h)
    · intro σ w h
      obtain ⟨x0, e0, h⟩ := vI_elim h
      obtain ⟨x1A, x1n, x1c, e1, h⟩ := vS_elim h
      refine J.sub ?_ (((Sub.base _).upd e0).upd e1)
      clear e0 e1
      refine J_seq (fun σ w => vI .i64 (σ 0) fun x0 => vS (σ 1) fun x1A x1n x1c => vI .i64 (σ 6) fun x6 => handle_From.p3 K x0 x1A x1n x1c x6 w) ?_ ?_
      ·
        exact sh_sound _ _ _ _ (Eq.mp (by kernel_rfl) h)
      · intro σ w h
        obtain ⟨x0, e0, h⟩ := vI_elim h
        obtain ⟨x1A, x1n, x1c, e1, h⟩ := vS_elim h
        obtain ⟨x6, e6, h⟩ := vI_elim h
        refine J.sub ?_ ((((Sub.base _).upd e0).upd e1).upd e6)
        clear e0 e1 e6
        refine J_seq (fun σ w => vI .i64 (σ 0) fun x0 => vS (σ 1) fun x1A x1n x1c => handle_From.p5 K x0 x1A x1n x1c w) ?_ ?_
        ·
          refine J_seq (fun σ w => vI .i64 (σ 0) fun x0 => vS (σ 1) fun x1A x1n x1c => vB (σ 32) fun x32 => handle_From.p4 K x0 x1A x1n x1c x32 w) ?_ ?_
          ·
            exact sh_sound _ _ _ _ (Eq.mp (by kernel_rfl) h)
          · intro σ w h
            obtain ⟨x0, e0, h⟩ := vI_elim h
            obtain ⟨x1A, x1n, x1c, e1, h⟩ := vS_elim h
            obtain ⟨x32, e32, h⟩ := vB_elim h
            refine J.sub ?_ ((((Sub.base _).upd e0).upd e1).upd e32)
            clear e0 e1 e32
            exact sh_sound _ _ _ _ (Eq.mp (by kernel_rfl) h)
        · intro σ w h
          obtain ⟨x0, e0, h⟩ := vI_elim h
          obtain ⟨x1A, x1n, x1c, e1, h⟩ := vS_elim h
          refine J.sub ?_ (((Sub.base _).upd e0).upd e1)
          clear e0 e1
          refine J_seq (fun σ w => vI .i64 (σ 0) fun x0 => vS (σ 1) fun x1A x1n x1c => handle_From.p7 K x0 x1A x1n x1c w) ?_ ?_
          ·
            refine J_seq (fun σ w => vI .i64 (σ 0) fun x0 => vS (σ 1) fun x1A x1n x1c => vS (σ 33) fun x33A x33n x33c => vI .i64 (σ 34) fun x34 => vI .i64 (σ 35) fun x35 => handle_From.p6 K x0 x1A x1n x1c x33A x33n x33c x34 x35 w) ?_ ?_
            ·
              exact sh_sound _ _ _ _ (Eq.mp (by kernel_rfl) h)
            · intro σ w h
              obtain ⟨x0, e0, h⟩ := vI_elim h
              obtain ⟨x1A, x1n, x1c, e1, h⟩ := vS_elim h
              obtain ⟨x33A, x33n, x33c, e33, h⟩ := vS_elim h
              obtain ⟨x34, e34, h⟩ := vI_elim h
              obtain ⟨x35, e35, h⟩ := vI_elim h
              refine J.sub ?_ ((((((Sub.base _).upd e0).upd e1).upd e33).upd e34).upd e35)
              clear e0 e1 e33 e34 e35
              refine J_block ?_
              refine J_loop (fun k σ w => vI .i64 (σ 0) fun x0 => vS (σ 1) fun x1A x1n x1c => vS (σ 33) fun x33A x33n x33c => vI .i64 (σ 34) fun x34 => vI .i64 (σ 35) fun x35 => handle_From.l0 K k x0 x1A x1n x1c x33A x33n x33c x34 x35 w) (Eq.mp (by kernel_rfl) h) ?_ ?_
              · intro σ w h
                obtain ⟨x0, e0, h⟩ := vI_elim h
                obtain ⟨x1A, x1n, x1c, e1, h⟩ := vS_elim h
                obtain ⟨x33A, x33n, x33c, e33, h⟩ := vS_elim h
                obtain ⟨x34, e34, h⟩ := vI_elim h
                obtain ⟨x35, e35, h⟩ := vI_elim h
                exact h
              · intro k0 σ w h
                obtain ⟨x0, e0, h⟩ := vI_elim h
                obtain ⟨x1A, x1n, x1c, e1, h⟩ := vS_elim h
                obtain ⟨x33A, x33n, x33c, e33, h⟩ := vS_elim h
                obtain ⟨x34, e34, h⟩ := vI_elim h
                obtain ⟨x35, e35, h⟩ := vI_elim h
                refine J.sub ?_ ((((((Sub.base _).upd e0).upd e1).upd e33).upd e34).upd e35)
                clear e0 e1 e33 e34 e35
                exact sh_sound _ _ _ _ (Eq.mp (by kernel_rfl) h)
          · intro σ w h
            obtain ⟨x0, e0, h⟩ := vI_elim h
            obtain ⟨x1A, x1n, x1c, e1, h⟩ := vS_elim h
            refine J.sub ?_ (((Sub.base _).upd e0).upd e1)
            clear e0 e1
            exact sh_sound _ _ _ _ (Eq.mp (by kernel_rfl) h)

/-! ### (*hayloft/handle.Table).Live: function 14 -/
abbrev handle_Table_Live.p5 (L0 : Option Addr → Nat → Nat → Option Addr → Nat → Nat → Int → Int → World → Prop) (K : Value → World → Prop) (x3A : Option Addr) (x3n : Nat) (x3c : Nat) (x7A : Option Addr) (x7n : Nat) (x7c : Nat) (x8 : Int) (x9 : Int) (w : World) : Prop :=
  L0 x3A x3n x3c x7A x7n x7c x8 (IntKind.wrap .i64 (x9 + (1 : Int))) w
abbrev handle_Table_Live.p4 (L0 : Option Addr → Nat → Nat → Option Addr → Nat → Nat → Int → Int → World → Prop) (K : Value → World → Prop) (x3A : Option Addr) (x3n : Nat) (x3c : Nat) (x7A : Option Addr) (x7n : Nat) (x7c : Nat) (x8 : Int) (x9 : Int) (w : World) : Prop :=
  (0 ≤ x9 ∧ x9 < ((x7n : Nat) : Int)) ∧ ∃ (a6 : Addr), x7A = some a6 ∧ ∃ (n7 : Int), w.cell? (a6.add (x9.toNat * 4)) = some (.int .i64 n7) ∧ ∃ (b8 : Bool), w.cell? ((a6.add (x9.toNat * 4)).add 1) = some (.bool b8) ∧ ∃ (n9 : Int), w.cell? ((a6.add (x9.toNat * 4)).add 2) = some (.int .i64 n9) ∧ ∃ (n10 : Int), w.cell? ((a6.add (x9.toNat * 4)).add 3) = some (.int .i64 n10) ∧ wlet (w.alloc (.cells #[.int .i64 0, .bool false, .int .i64 0, .int .i64 0] 33)) fun w11 => canStore w11 (⟨w.heap.size, 0, none⟩) ∧ wlet (w11.setCell (⟨w.heap.size, 0, none⟩) (.int .i64 n7)) fun w12 => canStore w12 (⟨w.heap.size, 1, none⟩) ∧ wlet (w12.setCell (⟨w.heap.size, 1, none⟩) (.bool b8)) fun w13 => canStore w13 (⟨w.heap.size, 2, none⟩) ∧ wlet (w13.setCell (⟨w.heap.size, 2, none⟩) (.int .i64 n9)) fun w14 => canStore w14 (⟨w.heap.size, 3, none⟩) ∧ wlet (w14.setCell (⟨w.heap.size, 3, none⟩) (.int .i64 n10)) fun w15 => ∃ (b16 : Bool), w15.cell? (⟨w.heap.size, 1, none⟩) = some (.bool b16) ∧ condP b16 (∃ (n17 : Int), w15.cell? (⟨w.heap.size, 0, none⟩) = some (.int .i64 n17) ∧ CallsE Try.prog 11 #[.int .i64 (IntKind.wrap .i64 (x9 + (1 : Int))), .int .i64 n17] w15 (fun v18 w19 => ∃ (n20 : Int), v18 = .int .u64 n20 ∧ wlet (w19.alloc (.cells #[.int .u64 n20] 25)) fun w21 => SemJ Try.prog (Builtin.append_ #[38, 38] 38 #[.slice x3A x3n x3c, .slice (some ⟨w19.heap.size, 0, none⟩) 1 1]) (fun v22 w23 => ∃ (A24 : Option Addr) (m25 : Nat) (c26 : Nat), v22 = .slice A24 m25 c26 ∧ handle_Table_Live.p5 L0 K A24 m25 c26 x7A x7n x7c x8 x9 w23) w21)) (handle_Table_Live.p5 L0 K x3A x3n x3c x7A x7n x7c x8 x9 w15)
abbrev handle_Table_Live.p6 (K : Value → World → Prop) (x3A : Option Addr) (x3n : Nat) (x3c : Nat) (w : World) : Prop :=
  K (.slice x3A x3n x3c) w
abbrev handle_Table_Live.p3 (L0 : Option Addr → Nat → Nat → Option Addr → Nat → Nat → Int → Int → World → Prop) (K : Value → World → Prop) (x3A : Option Addr) (x3n : Nat) (x3c : Nat) (x7A : Option Addr) (x7n : Nat) (x7c : Nat) (x8 : Int) (x9 : Int) (x10 : Bool) (w : World) : Prop :=
  condP x10 (handle_Table_Live.p4 L0 K x3A x3n x3c x7A x7n x7c x8 x9 w) (handle_Table_Live.p6 K x3A x3n x3c w)
abbrev handle_Table_Live.b0 (L0 : Option Addr → Nat → Nat → Option Addr → Nat → Nat → Int → Int → World → Prop) (K : Value → World → Prop) (x3A : Option Addr) (x3n : Nat) (x3c : Nat) (x7A : Option Addr) (x7n : Nat) (x7c : Nat) (x8 : Int) (x9 : Int) (w : World) : Prop :=
  handle_Table_Live.p3 L0 K x3A x3n x3c x7A x7n x7c x8 x9 (decide (x9 < x8)) w
def handle_Table_Live.l0 (K : Value → World → Prop) (k : Nat) : Option Addr → Nat → Nat → Option Addr → Nat → Nat → Int → Int → World → Prop :=
  Nat.rec (motive := fun _ => Option Addr → Nat → Nat → Option Addr → Nat → Nat → Int → Int → World → Prop) (fun _ _ _ _ _ _ _ _ _ => False) (fun _ ih => handle_Table_Live.b0 ih K) k
theorem handle_Table_Live.l0_succ (K : Value → World → Prop) (k : Nat) (x3A : Option Addr) (x3n : Nat) (x3c : Nat) (x7A : Option Addr) (x7n : Nat) (x7c : Nat) (x8 : Int) (x9 : Int) (w : World) : handle_Table_Live.l0 K (k + 1) x3A x3n x3c x7A x7n x7c x8 x9 w = handle_Table_Live.b0 (handle_Table_Live.l0 K k) K x3A x3n x3c x7A x7n x7c x8 x9 w := rfl
abbrev handle_Table_Live.p2 (K : Value → World → Prop) (x3A : Option Addr) (x3n : Nat) (x3c : Nat) (x7A : Option Addr) (x7n : Nat) (x7c : Nat) (x8 : Int) (x9 : Int) (w : World) : Prop :=
  ∃ k, handle_Table_Live.l0 K k x3A x3n x3c x7A x7n x7c x8 x9 w
abbrev handle_Table_Live.p1 (K : Value → World → Prop) (x0 : Option Addr) (x3A : Option Addr) (x3n : Nat) (x3c : Nat) (w : World) : Prop :=
  CallsE Try.prog 25 #[.pointer x0] w (fun v1 w2 => ∃ (A3 : Option Addr) (m4 : Nat) (c5 : Nat), v1 = .slice A3 m4 c5 ∧ handle_Table_Live.p2 K x3A x3n x3c A3 m4 c5 ((m4 : Nat) : Int) 0 w2)
abbrev handle_Table_Live.p0 (K : Value → World → Prop) (x0 : Option Addr) (w : World) : Prop :=
  handle_Table_Live.p1 K x0 none 0 0 w
abbrev handle_Table_Live.F (q0 : Option Addr) (K : Value → World → Prop) (w : World) : Prop :=
  handle_Table_Live.p0 K q0 w
theorem handle_Table_Live.ok {q0 : Option Addr} {K : Value → World → Prop} {w : World} (h : handle_Table_Live.F q0 K w) :
    CallsE Try.prog 14 #[.pointer q0] w K := by
  refine calls_of_J (n := 26) (rs := [.tmp 2]) Try.func14 rfl rfl rfl rfl ?_
  refine J_seq (fun σ w => vP (σ 0) fun x0 => handle_Table_Live.p0 K x0 w) ?_ ?_
  ·
    exact sh_sound _ _ _ _ (Eq.mp (by kernel_rfl) h)
  · intro σ w h
    obtain ⟨x0, e0, h⟩ := vP_elim h
    refine J.sub ?_ ((Sub.base _).upd e0)
    clear e0
    refine J_seq (fun σ w => vP (σ 0) fun x0 => vS (σ 3) fun x3A x3n x3c => handle_Table_Live.p1 K x0 x3A x3n x3c w) ?_ ?_
    ·
      exact sh_sound _ _ _ _ (Eq.mp (by kernel_rfl) h)
    · intro σ w h
      obtain ⟨x0, e0, h⟩ := vP_elim h
      obtain ⟨x3A, x3n, x3c, e3, h⟩ := vS_elim h
      refine J.sub ?_ (((Sub.base _).upd e0).upd e3)
      clear e0 e3
      refine J_seq (fun σ w => vS (σ 3) fun x3A x3n x3c => handle_Table_Live.p6 K x3A x3n x3c w) ?_ ?_
      ·
        refine J_seq (fun σ w => vS (σ 3) fun x3A x3n x3c => vS (σ 7) fun x7A x7n x7c => vI .i64 (σ 8) fun x8 => vI .i64 (σ 9) fun x9 => handle_Table_Live.p2 K x3A x3n x3c x7A x7n x7c x8 x9 w) ?_ ?_
        ·
          exact sh_sound _ _ _ _ (Eq.mp (by kernel_rfl) h)
        · intro σ w h
          obtain ⟨x3A, x3n, x3c, e3, h⟩ := vS_elim h
          obtain ⟨x7A, x7n, x7c, e7, h⟩ := vS_elim h
          obtain ⟨x8, e8, h⟩ := vI_elim h
          obtain ⟨x9, e9, h⟩ := vI_elim h
          refine J.sub ?_ (((((Sub.base _).upd e3).upd e7).upd e8).upd e9)
          clear e3 e7 e8 e9
          refine J_block ?_
          refine J_loop (fun k σ w => vS (σ 3) fun x3A x3n x3c => vS (σ 7) fun x7A x7n x7c => vI .i64 (σ 8) fun x8 => vI .i64 (σ 9) fun x9 => handle_Table_Live.l0 K k x3A x3n x3c x7A x7n x7c x8 x9 w) (Eq.mp (by kernel_rfl) h) ?_ ?_
          · intro σ w h
            obtain ⟨x3A, x3n, x3c, e3, h⟩ := vS_elim h
            obtain ⟨x7A, x7n, x7c, e7, h⟩ := vS_elim h
            obtain ⟨x8, e8, h⟩ := vI_elim h
            obtain ⟨x9, e9, h⟩ := vI_elim h
            exact h
          · intro k0 σ w h
            obtain ⟨x3A, x3n, x3c, e3, h⟩ := vS_elim h
            obtain ⟨x7A, x7n, x7c, e7, h⟩ := vS_elim h
            obtain ⟨x8, e8, h⟩ := vI_elim h
            obtain ⟨x9, e9, h⟩ := vI_elim h
            refine J.sub ?_ (((((Sub.base _).upd e3).upd e7).upd e8).upd e9)
            clear e3 e7 e8 e9
            refine J_seq (fun σ w => vS (σ 3) fun x3A x3n x3c => vS (σ 7) fun x7A x7n x7c => vI .i64 (σ 8) fun x8 => vI .i64 (σ 9) fun x9 => vB (σ 10) fun x10 => handle_Table_Live.p3 (handle_Table_Live.l0 K k0) K x3A x3n x3c x7A x7n x7c x8 x9 x10 w) ?_ ?_
            ·
              exact sh_sound _ _ _ _ (Eq.mp (by kernel_rfl) h)
            · intro σ w h
              obtain ⟨x3A, x3n, x3c, e3, h⟩ := vS_elim h
              obtain ⟨x7A, x7n, x7c, e7, h⟩ := vS_elim h
              obtain ⟨x8, e8, h⟩ := vI_elim h
              obtain ⟨x9, e9, h⟩ := vI_elim h
              obtain ⟨x10, e10, h⟩ := vB_elim h
              refine J.sub ?_ ((((((Sub.base _).upd e3).upd e7).upd e8).upd e9).upd e10)
              clear e3 e7 e8 e9 e10
              refine J_seq (fun σ w => vS (σ 3) fun x3A x3n x3c => vS (σ 7) fun x7A x7n x7c => vI .i64 (σ 8) fun x8 => vI .i64 (σ 9) fun x9 => handle_Table_Live.p4 (handle_Table_Live.l0 K k0) K x3A x3n x3c x7A x7n x7c x8 x9 w) ?_ ?_
              ·
                exact sh_sound _ _ _ _ (Eq.mp (by kernel_rfl) h)
              · intro σ w h
                obtain ⟨x3A, x3n, x3c, e3, h⟩ := vS_elim h
                obtain ⟨x7A, x7n, x7c, e7, h⟩ := vS_elim h
                obtain ⟨x8, e8, h⟩ := vI_elim h
                obtain ⟨x9, e9, h⟩ := vI_elim h
                refine J.sub ?_ (((((Sub.base _).upd e3).upd e7).upd e8).upd e9)
                clear e3 e7 e8 e9
                refine J_seq (fun σ w => vS (σ 3) fun x3A x3n x3c => vS (σ 7) fun x7A x7n x7c => vI .i64 (σ 8) fun x8 => vI .i64 (σ 9) fun x9 => handle_Table_Live.p5 (handle_Table_Live.l0 K k0) K x3A x3n x3c x7A x7n x7c x8 x9 w) ?_ ?_
                ·
                  exact sh_sound _ _ _ _ (Eq.mp (by kernel_rfl) h)
                · intro σ w h
                  obtain ⟨x3A, x3n, x3c, e3, h⟩ := vS_elim h
                  obtain ⟨x7A, x7n, x7c, e7, h⟩ := vS_elim h
                  obtain ⟨x8, e8, h⟩ := vI_elim h
                  obtain ⟨x9, e9, h⟩ := vI_elim h
                  refine J.sub ?_ (((((Sub.base _).upd e3).upd e7).upd e8).upd e9)
                  clear e3 e7 e8 e9
                  exact sh_sound _ _ _ _ (Eq.mp (by kernel_rfl) h)
      · intro σ w h
        obtain ⟨x3A, x3n, x3c, e3, h⟩ := vS_elim h
        refine J.sub ?_ ((Sub.base _).upd e3)
        clear e3
        exact sh_sound _ _ _ _ (Eq.mp (by kernel_rfl) h)

/-! ### (*hayloft/handle.Table).Drop: function 15 -/
abbrev handle_Table_Drop.p2 (K : Value → World → Prop) (x6 : Int) (w : World) : Prop :=
  K (.int .i64 x6) w
abbrev handle_Table_Drop.p1 (K : Value → World → Prop) (x5 : Option Addr) (x6 : Int) (w : World) : Prop :=
  condP (x6 == (0 : Int)) (∃ (a5 : Addr), x5 = some a5 ∧ ∃ (n6 : Int), w.cell? a5 = some (.int .i64 n6) ∧ ∃ (a7 : Addr), x5 = some a7 ∧ canStore w a7 ∧ wlet (w.setCell a7 (.int .i64 n6)) fun w8 => canStore w8 (a7.add 1) ∧ wlet (w8.setCell (a7.add 1) (.bool false)) fun w9 => canStore w9 (a7.add 2) ∧ wlet (w9.setCell (a7.add 2) (.int .i64 0)) fun w10 => canStore w10 (a7.add 3) ∧ wlet (w10.setCell (a7.add 3) (.int .i64 0)) fun w11 => handle_Table_Drop.p2 K x6 w11) (handle_Table_Drop.p2 K x6 w)
abbrev handle_Table_Drop.p0 (K : Value → World → Prop) (x0 : Option Addr) (x1 : Int) (w : World) : Prop :=
  CallsE Try.prog 28 #[.pointer x0, .int .u64 x1] w (fun v1 w2 => ∃ (p3 : Option Addr) (n4 : Int), v1 = .tuple #[.pointer p3, .int .i64 n4] ∧ handle_Table_Drop.p1 K p3 n4 w2)
abbrev handle_Table_Drop.F (q0 : Option Addr) (q1 : Int) (K : Value → World → Prop) (w : World) : Prop :=
  handle_Table_Drop.p0 K q0 q1 w
theorem handle_Table_Drop.ok {q0 : Option Addr} {q1 : Int} {K : Value → World → Prop} {w : World} (h : handle_Table_Drop.F q0 q1 K w) :
    CallsE Try.prog 15 #[.pointer q0, .int .u64 q1] w K := by
  refine calls_of_J (n := 23) (rs := [.tmp 4]) Try.func15 rfl rfl rfl rfl ?_
  refine J_seq (fun σ w => vP (σ 0) fun x0 => vI .u64 (σ 1) fun x1 => handle_Table_Drop.p0 K x0 x1 w) ?_ ?_
  ·
    exact sh_sound _ _ _ _ (Eq.mp (by kernel_rfl) h)
  · intro σ w h
    obtain ⟨x0, e0, h⟩ := vP_elim h
    obtain ⟨x1, e1, h⟩ := vI_elim h
    refine J.sub ?_ (((Sub.base _).upd e0).upd e1)
    clear e0 e1
    refine J_seq (fun σ w => vP (σ 5) fun x5 => vI .i64 (σ 6) fun x6 => handle_Table_Drop.p1 K x5 x6 w) ?_ ?_
    ·
      exact sh_sound _ _ _ _ (Eq.mp (by kernel_rfl) h)
    · intro σ w h
      obtain ⟨x5, e5, h⟩ := vP_elim h
      obtain ⟨x6, e6, h⟩ := vI_elim h
      refine J.sub ?_ (((Sub.base _).upd e5).upd e6)
      clear e5 e6
      refine J_seq (fun σ w => vI .i64 (σ 6) fun x6 => handle_Table_Drop.p2 K x6 w) ?_ ?_
      ·
        exact sh_sound _ _ _ _ (Eq.mp (by kernel_rfl) h)
      · intro σ w h
        obtain ⟨x6, e6, h⟩ := vI_elim h
        refine J.sub ?_ ((Sub.base _).upd e6)
        clear e6
        exact sh_sound _ _ _ _ (Eq.mp (by kernel_rfl) h)

/-! ### (*hayloft/handle.Table).Full: function 16 -/
abbrev handle_Table_Full.p1 (K : Value → World → Prop) (x2 : Bool) (w : World) : Prop :=
  K (.bool x2) w
abbrev handle_Table_Full.p0 (K : Value → World → Prop) (x0 : Option Addr) (w : World) : Prop :=
  condP x0.isNone (handle_Table_Full.p1 K true w) (CallsE Try.prog 29 #[.pointer x0] w (fun v1 w2 => ∃ (n3 : Int), v1 = .int .i64 n3 ∧ handle_Table_Full.p1 K (decide (n3 < (0 : Int))) w2))
abbrev handle_Table_Full.F (q0 : Option Addr) (K : Value → World → Prop) (w : World) : Prop :=
  handle_Table_Full.p0 K q0 w
theorem handle_Table_Full.ok {q0 : Option Addr} {K : Value → World → Prop} {w : World} (h : handle_Table_Full.F q0 K w) :
    CallsE Try.prog 16 #[.pointer q0] w K := by
  refine calls_of_J (n := 10) (rs := [.tmp 2]) Try.func16 rfl rfl rfl rfl ?_
  refine J_seq (fun σ w => vP (σ 0) fun x0 => handle_Table_Full.p0 K x0 w) ?_ ?_
  ·
    exact sh_sound _ _ _ _ (Eq.mp (by kernel_rfl) h)
  · intro σ w h
    obtain ⟨x0, e0, h⟩ := vP_elim h
    refine J.sub ?_ ((Sub.base _).upd e0)
    clear e0
    refine J_seq (fun σ w => vB (σ 2) fun x2 => handle_Table_Full.p1 K x2 w) ?_ ?_
    ·
      exact sh_sound _ _ _ _ (Eq.mp (by kernel_rfl) h)
    · intro σ w h
      obtain ⟨x2, e2, h⟩ := vB_elim h
      refine J.sub ?_ ((Sub.base _).upd e2)
      clear e2
      exact sh_sound _ _ _ _ (Eq.mp (by kernel_rfl) h)

/-! ### (*hayloft/handle.Table).Make: function 17 -/
abbrev handle_Table_Make.p5 (K : Value → World → Prop) (x0 : Option Addr) (x8 : Int) (w : World) : Prop :=
  ∃ (a36 : Addr), x0 = some a36 ∧ ∃ (A37 : Option Addr) (m38 : Nat) (c39 : Nat), w.cell? (a36.add 1) = some (.slice A37 m38 c39) ∧ (0 ≤ x8 ∧ x8 < ((m38 : Nat) : Int)) ∧ ∃ (a40 : Addr), A37 = some a40 ∧ ∃ (n41 : Int), w.cell? (a40.add (x8.toNat * 4)) = some (.int .i64 n41) ∧ CallsE Try.prog 11 #[.int .i64 (IntKind.wrap .i64 (x8 + (1 : Int))), .int .i64 n41] w (fun v42 w43 => ∃ (n44 : Int), v42 = .int .u64 n44 ∧ K (.tuple #[.int .u64 n44, .int .i64 0]) w43)
abbrev handle_Table_Make.p4 (K : Value → World → Prop) (x0 : Option Addr) (x1 : Int) (x2 : Int) (x8 : Int) (w : World) : Prop :=
  ∃ (S20 : Array Obj → Prop), S20 w.heap ∧ ∃ (a21 : Addr), x0 = some a21 ∧ ∃ (a22 : Addr), x0 = some a22 ∧ ∃ (A23 : Option Addr) (m24 : Nat) (c25 : Nat), (∀ w' : World, S20 w'.heap → w'.cell? (a21.add 1) = some (.slice A23 m24 c25)) ∧ ∃ (A26 : Option Addr) (m27 : Nat) (c28 : Nat), (∀ w' : World, S20 w'.heap → w'.cell? (a22.add 1) = some (.slice A26 m27 c28)) ∧ (0 ≤ x8 ∧ x8 < ((m27 : Nat) : Int)) ∧ ∃ (a29 : Addr), A26 = some a29 ∧ ∃ (n30 : Int), (∀ w' : World, S20 w'.heap → w'.cell? (a29.add (x8.toNat * 4)) = some (.int .i64 n30)) ∧ S20 w.heap ∧ (0 ≤ x8 ∧ x8 < ((m24 : Nat) : Int)) ∧ ∃ (a31 : Addr), A23 = some a31 ∧ canStore w (a31.add (x8.toNat * 4)) ∧ wlet (w.setCell (a31.add (x8.toNat * 4)) (.int .i64 (IntKind.wrap .i64 (n30 + (1 : Int))))) fun w32 => canStore w32 ((a31.add (x8.toNat * 4)).add 1) ∧ wlet (w32.setCell ((a31.add (x8.toNat * 4)).add 1) (.bool true)) fun w33 => canStore w33 ((a31.add (x8.toNat * 4)).add 2) ∧ wlet (w33.setCell ((a31.add (x8.toNat * 4)).add 2) (.int .i64 x1)) fun w34 => canStore w34 ((a31.add (x8.toNat * 4)).add 3) ∧ wlet (w34.setCell ((a31.add (x8.toNat * 4)).add 3) (.int .i64 x2)) fun w35 => handle_Table_Make.p5 K x0 x8 w35
abbrev handle_Table_Make.p3 (K : Value → World → Prop) (x0 : Option Addr) (x1 : Int) (x2 : Int) (x8 : Int) (w : World) : Prop :=
  ∃ (a4 : Addr), x0 = some a4 ∧ ∃ (A5 : Option Addr) (m6 : Nat) (c7 : Nat), w.cell? (a4.add 1) = some (.slice A5 m6 c7) ∧ condP (x8 == ((m6 : Nat) : Int)) (∃ (a8 : Addr), x0 = some a8 ∧ ∃ (A9 : Option Addr) (m10 : Nat) (c11 : Nat), w.cell? (a8.add 1) = some (.slice A9 m10 c11) ∧ wlet (w.alloc (.cells #[.int .i64 0, .bool false, .int .i64 0, .int .i64 0] 33)) fun w12 => SemJ Try.prog (Builtin.append_ #[30, 30] 30 #[.slice A9 m10 c11, .slice (some ⟨w.heap.size, 0, none⟩) 1 1]) (fun v13 w14 => ∃ (A15 : Option Addr) (m16 : Nat) (c17 : Nat), v13 = .slice A15 m16 c17 ∧ ∃ (a18 : Addr), x0 = some a18 ∧ canStore w14 (a18.add 1) ∧ wlet (w14.setCell (a18.add 1) (.slice A15 m16 c17)) fun w19 => handle_Table_Make.p4 K x0 x1 x2 x8 w19) w12) (handle_Table_Make.p4 K x0 x1 x2 x8 w)
abbrev handle_Table_Make.p2 (K : Value → World → Prop) (x0 : Option Addr) (x1 : Int) (x2 : Int) (x8 : Int) (w : World) : Prop :=
  condP (decide (x8 < (0 : Int))) (K (.tuple #[.int .u64 0, .int .i64 7]) w) (handle_Table_Make.p3 K x0 x1 x2 x8 w)
abbrev handle_Table_Make.p1 (K : Value → World → Prop) (x0 : Option Addr) (x1 : Int) (x2 : Int) (w : World) : Prop :=
  CallsE Try.prog 29 #[.pointer x0] w (fun v1 w2 => ∃ (n3 : Int), v1 = .int .i64 n3 ∧ handle_Table_Make.p2 K x0 x1 x2 n3 w2)
abbrev handle_Table_Make.p0 (K : Value → World → Prop) (x0 : Option Addr) (x1 : Int) (x2 : Int) (w : World) : Prop :=
  condP x0.isNone (K (.tuple #[.int .u64 0, .int .i64 1]) w) (handle_Table_Make.p1 K x0 x1 x2 w)
abbrev handle_Table_Make.F (q0 : Option Addr) (q1 : Int) (q2 : Int) (K : Value → World → Prop) (w : World) : Prop :=
  handle_Table_Make.p0 K q0 q1 q2 w
theorem handle_Table_Make.ok {q0 : Option Addr} {q1 : Int} {q2 : Int} {K : Value → World → Prop} {w : World} (h : handle_Table_Make.F q0 q1 q2 K w) :
    CallsE Try.prog 17 #[.pointer q0, .int .i64 q1, .int .i64 q2] w K := by
  refine calls_of_J (n := 61) (rs := [.tmp 6, .tmp 7]) Try.func17 rfl rfl rfl rfl ?_
  refine J_seq (fun σ w => vP (σ 0) fun x0 => vI .i64 (σ 1) fun x1 => vI .i64 (σ 2) fun x2 => handle_Table_Make.p0 K x0 x1 x2 w) ?_ ?_
  ·
    exact sh_sound _ _ _ _ (Eq.mp (by kernel_rfl) h)
  · intro σ w h
    obtain ⟨x0, e0, h⟩ := vP_elim h
    obtain ⟨x1, e1, h⟩ := vI_elim h
    obtain ⟨x2, e2, h⟩ := vI_elim h
    refine J.sub ?_ ((((Sub.base _).upd e0).upd e1).upd e2)
    clear e0 e1 e2
    refine J_seq (fun σ w => vP (σ 0) fun x0 => vI .i64 (σ 1) fun x1 => vI .i64 (σ 2) fun x2 => handle_Table_Make.p1 K x0 x1 x2 w) ?_ ?_
    ·
      exact sh_sound _ _ _ _ (Eq.mp (by kernel_rfl) h)
    · intro σ w h
      obtain ⟨x0, e0, h⟩ := vP_elim h
      obtain ⟨x1, e1, h⟩ := vI_elim h
      obtain ⟨x2, e2, h⟩ := vI_elim h
      refine J.sub ?_ ((((Sub.base _).upd e0).upd e1).upd e2)
      clear e0 e1 e2
      refine J_seq (fun σ w => vP (σ 0) fun x0 => vI .i64 (σ 1) fun x1 => vI .i64 (σ 2) fun x2 => vI .i64 (σ 8) fun x8 => handle_Table_Make.p2 K x0 x1 x2 x8 w) ?_ ?_
      ·
        exact sh_sound _ _ _ _ (Eq.mp (by kernel_rfl) h)
      · intro σ w h
        obtain ⟨x0, e0, h⟩ := vP_elim h
        obtain ⟨x1, e1, h⟩ := vI_elim h
        obtain ⟨x2, e2, h⟩ := vI_elim h
        obtain ⟨x8, e8, h⟩ := vI_elim h
        refine J.sub ?_ (((((Sub.base _).upd e0).upd e1).upd e2).upd e8)
        clear e0 e1 e2 e8
        refine J_seq (fun σ w => vP (σ 0) fun x0 => vI .i64 (σ 1) fun x1 => vI .i64 (σ 2) fun x2 => vI .i64 (σ 8) fun x8 => handle_Table_Make.p3 K x0 x1 x2 x8 w) ?_ ?_
        ·
          exact sh_sound _ _ _ _ (Eq.mp (by kernel_rfl) h)
        · intro σ w h
          obtain ⟨x0, e0, h⟩ := vP_elim h
          obtain ⟨x1, e1, h⟩ := vI_elim h
          obtain ⟨x2, e2, h⟩ := vI_elim h
          obtain ⟨x8, e8, h⟩ := vI_elim h
          refine J.sub ?_ (((((Sub.base _).upd e0).upd e1).upd e2).upd e8)
          clear e0 e1 e2 e8
          refine J_seq (fun σ w => vP (σ 0) fun x0 => vI .i64 (σ 1) fun x1 => vI .i64 (σ 2) fun x2 => vI .i64 (σ 8) fun x8 => handle_Table_Make.p4 K x0 x1 x2 x8 w) ?_ ?_
          ·
            exact sh_sound _ _ _ _ (Eq.mp (by kernel_rfl) h)
          · intro σ w h
            obtain ⟨x0, e0, h⟩ := vP_elim h
            obtain ⟨x1, e1, h⟩ := vI_elim h
            obtain ⟨x2, e2, h⟩ := vI_elim h
            obtain ⟨x8, e8, h⟩ := vI_elim h
            refine J.sub ?_ (((((Sub.base _).upd e0).upd e1).upd e2).upd e8)
            clear e0 e1 e2 e8
            refine J_seq (fun σ w => vP (σ 0) fun x0 => vI .i64 (σ 8) fun x8 => handle_Table_Make.p5 K x0 x8 w) ?_ ?_
            ·
              exact J_held [18] [(0, 0), (1, 0), (2, 0), (4, 0), (5, 0), (6, 0), (7, 0), (9, 0), (14, 0), (15, 0), (3, 1), (8, 1), (10, 0), (11, 0), (12, 1), (13, 0), (16, 2), (17, 0), (18, 3)] (by kernel_rfl) (Eq.mp (by kernel_rfl) h)
            · intro σ w h
              obtain ⟨x0, e0, h⟩ := vP_elim h
              obtain ⟨x8, e8, h⟩ := vI_elim h
              refine J.sub ?_ (((Sub.base _).upd e0).upd e8)
              clear e0 e8
              exact sh_sound _ _ _ _ (Eq.mp (by kernel_rfl) h)

/-! ### hayloft/handle.New: function 18 -/
abbrev handle_New.F (q0 : Int) (K : Value → World → Prop) (w : World) : Prop :=
  CallsE Try.prog 13 #[.int .i64 q0, .slice none 0 0] w (fun v1 w2 => ∃ (p3 : Option Addr) (n4 : Int), v1 = .tuple #[.pointer p3, .int .i64 n4] ∧ K (.tuple #[.pointer p3, .int .i64 n4]) w2)
theorem handle_New.ok {q0 : Int} {K : Value → World → Prop} {w : World} (h : handle_New.F q0 K w) :
    CallsE Try.prog 18 #[.int .i64 q0] w K := by
  refine calls_of_J (n := 8) (rs := [.tmp 2, .tmp 3]) Try.func18 rfl rfl rfl rfl ?_
  exact sh_sound _ _ _ _ (Eq.mp (by kernel_rfl) h)

/-! ### (*hayloft/handle.Table).Get: function 19 -/
abbrev handle_Table_Get.F (q0 : Option Addr) (q1 : Int) (K : Value → World → Prop) (w : World) : Prop :=
  CallsE Try.prog 28 #[.pointer q0, .int .u64 q1] w (fun v1 w2 => ∃ (p3 : Option Addr) (n4 : Int), v1 = .tuple #[.pointer p3, .int .i64 n4] ∧ condP (n4 != (0 : Int)) (K (.tuple #[.int .i64 0, .int .i64 0, .int .i64 n4]) w2) (∃ (a5 : Addr), p3 = some a5 ∧ ∃ (n6 : Int), w2.cell? (a5.add 2) = some (.int .i64 n6) ∧ ∃ (a7 : Addr), p3 = some a7 ∧ ∃ (n8 : Int), w2.cell? (a7.add 3) = some (.int .i64 n8) ∧ K (.tuple #[.int .i64 n6, .int .i64 n8, .int .i64 0]) w2))
theorem handle_Table_Get.ok {q0 : Option Addr} {q1 : Int} {K : Value → World → Prop} {w : World} (h : handle_Table_Get.F q0 q1 K w) :
    CallsE Try.prog 19 #[.pointer q0, .int .u64 q1] w K := by
  refine calls_of_J (n := 26) (rs := [.tmp 4, .tmp 5, .tmp 6]) Try.func19 rfl rfl rfl rfl ?_
  exact sh_sound _ _ _ _ (Eq.mp (by kernel_rfl) h)

/-! ### (*hayloft/handle.Table).Put: function 20 -/
abbrev handle_Table_Put.p2 (K : Value → World → Prop) (x8 : Int) (w : World) : Prop :=
  K (.int .i64 x8) w
abbrev handle_Table_Put.p1 (K : Value → World → Prop) (x2 : Int) (x7 : Option Addr) (x8 : Int) (w : World) : Prop :=
  condP (x8 == (0 : Int)) (∃ (a5 : Addr), x7 = some a5 ∧ canStore w (a5.add 3) ∧ wlet (w.setCell (a5.add 3) (.int .i64 x2)) fun w6 => handle_Table_Put.p2 K x8 w6) (handle_Table_Put.p2 K x8 w)
abbrev handle_Table_Put.p0 (K : Value → World → Prop) (x0 : Option Addr) (x1 : Int) (x2 : Int) (w : World) : Prop :=
  CallsE Try.prog 28 #[.pointer x0, .int .u64 x1] w (fun v1 w2 => ∃ (p3 : Option Addr) (n4 : Int), v1 = .tuple #[.pointer p3, .int .i64 n4] ∧ handle_Table_Put.p1 K x2 p3 n4 w2)
abbrev handle_Table_Put.F (q0 : Option Addr) (q1 : Int) (q2 : Int) (K : Value → World → Prop) (w : World) : Prop :=
  handle_Table_Put.p0 K q0 q1 q2 w
theorem handle_Table_Put.ok {q0 : Option Addr} {q1 : Int} {q2 : Int} {K : Value → World → Prop} {w : World} (h : handle_Table_Put.F q0 q1 q2 K w) :
    CallsE Try.prog 20 #[.pointer q0, .int .u64 q1, .int .i64 q2] w K := by
  refine calls_of_J (n := 22) (rs := [.tmp 6]) Try.func20 rfl rfl rfl rfl ?_
  refine J_seq (fun σ w => vP (σ 0) fun x0 => vI .u64 (σ 1) fun x1 => vI .i64 (σ 2) fun x2 => handle_Table_Put.p0 K x0 x1 x2 w) ?_ ?_
  ·
    exact sh_sound _ _ _ _ (Eq.mp (by kernel_rfl) h)
  · intro σ w h
    obtain ⟨x0, e0, h⟩ := vP_elim h
    obtain ⟨x1, e1, h⟩ := vI_elim h
    obtain ⟨x2, e2, h⟩ := vI_elim h
    refine J.sub ?_ ((((Sub.base _).upd e0).upd e1).upd e2)
    clear e0 e1 e2
    refine J_seq (fun σ w => vI .i64 (σ 2) fun x2 => vP (σ 7) fun x7 => vI .i64 (σ 8) fun x8 => handle_Table_Put.p1 K x2 x7 x8 w) ?_ ?_
    ·
      exact sh_sound _ _ _ _ (Eq.mp (by kernel_rfl) h)
    · intro σ w h
      obtain ⟨x2, e2, h⟩ := vI_elim h
      obtain ⟨x7, e7, h⟩ := vP_elim h
      obtain ⟨x8, e8, h⟩ := vI_elim h
      refine J.sub ?_ ((((Sub.base _).upd e2).upd e7).upd e8)
      clear e2 e7 e8
      refine J_seq (fun σ w => vI .i64 (σ 8) fun x8 => handle_Table_Put.p2 K x8 w) ?_ ?_
      ·
        exact sh_sound _ _ _ _ (Eq.mp (by kernel_rfl) h)
      · intro σ w h
        obtain ⟨x8, e8, h⟩ := vI_elim h
        refine J.sub ?_ ((Sub.base _).upd e8)
        clear e8
        exact sh_sound _ _ _ _ (Eq.mp (by kernel_rfl) h)

/-! ### hayloft/hayloftref12.From: function 21 -/
abbrev ref12_From.p11 (L0 : Option Addr → Nat → Nat → Addr → Option Addr → Nat → Nat → Int → Int → World → Prop) (K : Value → World → Prop) (x1A : Option Addr) (x1n : Nat) (x1c : Nat) (x6 : Addr) (x23A : Option Addr) (x23n : Nat) (x23c : Nat) (x24 : Int) (x25 : Int) (w : World) : Prop :=
  L0 x1A x1n x1c x6 x23A x23n x23c x24 (IntKind.wrap .i64 (x25 + (1 : Int))) w
abbrev ref12_From.p10 (L0 : Option Addr → Nat → Nat → Addr → Option Addr → Nat → Nat → Int → Int → World → Prop) (K : Value → World → Prop) (x1A : Option Addr) (x1n : Nat) (x1c : Nat) (x6 : Addr) (x7 : Int) (x8 : Addr) (x23A : Option Addr) (x23n : Nat) (x23c : Nat) (x24 : Int) (x25 : Int) (w : World) : Prop :=
  ∃ (S14 : Array Obj → Prop), S14 w.heap ∧ ∃ (a15 : Addr), some x6 = some a15 ∧ ∃ (A16 : Option Addr) (m17 : Nat) (c18 : Nat), (∀ w' : World, S14 w'.heap → w'.cell? a15 = some (.slice A16 m17 c18)) ∧ ∃ (n19 : Int), (∀ w' : World, S14 w'.heap → w'.cell? x8 = some (.int .i64 n19)) ∧ ∃ (b20 : Bool), (∀ w' : World, S14 w'.heap → w'.cell? (x8.add 1) = some (.bool b20)) ∧ ∃ (n21 : Int), (∀ w' : World, S14 w'.heap → w'.cell? (x8.add 2) = some (.int .i64 n21)) ∧ ∃ (n22 : Int), (∀ w' : World, S14 w'.heap → w'.cell? (x8.add 3) = some (.int .i64 n22)) ∧ (0 ≤ x7 ∧ x7 < ((m17 : Nat) : Int)) ∧ ∃ (a23 : Addr), A16 = some a23 ∧ canStore w (a23.add (x7.toNat * 4)) ∧ wlet (w.setCell (a23.add (x7.toNat * 4)) (.int .i64 n19)) fun w24 => canStore w24 ((a23.add (x7.toNat * 4)).add 1) ∧ wlet (w24.setCell ((a23.add (x7.toNat * 4)).add 1) (.bool b20)) fun w25 => canStore w25 ((a23.add (x7.toNat * 4)).add 2) ∧ wlet (w25.setCell ((a23.add (x7.toNat * 4)).add 2) (.int .i64 n21)) fun w26 => canStore w26 ((a23.add (x7.toNat * 4)).add 3) ∧ wlet (w26.setCell ((a23.add (x7.toNat * 4)).add 3) (.int .i64 n22)) fun w27 => ref12_From.p11 L0 K x1A x1n x1c x6 x23A x23n x23c x24 x25 w27
abbrev ref12_From.p9 (L0 : Option Addr → Nat → Nat → Addr → Option Addr → Nat → Nat → Int → Int → World → Prop) (K : Value → World → Prop) (x1A : Option Addr) (x1n : Nat) (x1c : Nat) (x6 : Addr) (x7 : Int) (x8 : Addr) (x23A : Option Addr) (x23n : Nat) (x23c : Nat) (x24 : Int) (x25 : Int) (x61 : Bool) (w : World) : Prop :=
  condP x61 (K (.tuple #[.pointer none, .int .i64 4]) w) (ref12_From.p10 L0 K x1A x1n x1c x6 x7 x8 x23A x23n x23c x24 x25 w)
abbrev ref12_From.p8 (L0 : Option Addr → Nat → Nat → Addr → Option Addr → Nat → Nat → Int → Int → World → Prop) (K : Value → World → Prop) (x1A : Option Addr) (x1n : Nat) (x1c : Nat) (x6 : Addr) (x7 : Int) (x8 : Addr) (x23A : Option Addr) (x23n : Nat) (x23c : Nat) (x24 : Int) (x25 : Int) (w : World) : Prop :=
  ∃ (n13 : Int), w.cell? x8 = some (.int .i64 n13) ∧ condP (decide (n13 < (0 : Int))) (ref12_From.p9 L0 K x1A x1n x1c x6 x7 x8 x23A x23n x23c x24 x25 true w) (∃ (n28 : Int), w.cell? x8 = some (.int .i64 n28) ∧ condP (decide ((65535 : Int) < n28)) (ref12_From.p9 L0 K x1A x1n x1c x6 x7 x8 x23A x23n x23c x24 x25 true w) (∃ (b29 : Bool), w.cell? (x8.add 1) = some (.bool b29) ∧ condP b29 (∃ (n30 : Int), w.cell? x8 = some (.int .i64 n30) ∧ condP (n30 == (0 : Int)) (ref12_From.p9 L0 K x1A x1n x1c x6 x7 x8 x23A x23n x23c x24 x25 true w) (∃ (b31 : Bool), w.cell? (x8.add 1) = some (.bool b31) ∧ condP (!b31) (∃ (n32 : Int), w.cell? (x8.add 2) = some (.int .i64 n32) ∧ condP (n32 != (0 : Int)) (ref12_From.p9 L0 K x1A x1n x1c x6 x7 x8 x23A x23n x23c x24 x25 true w) (∃ (n33 : Int), w.cell? (x8.add 3) = some (.int .i64 n33) ∧ ref12_From.p9 L0 K x1A x1n x1c x6 x7 x8 x23A x23n x23c x24 x25 (n33 != (0 : Int)) w)) (ref12_From.p9 L0 K x1A x1n x1c x6 x7 x8 x23A x23n x23c x24 x25 false w))) (∃ (b34 : Bool), w.cell? (x8.add 1) = some (.bool b34) ∧ condP (!b34) (∃ (n35 : Int), w.cell? (x8.add 2) = some (.int .i64 n35) ∧ condP (n35 != (0 : Int)) (ref12_From.p9 L0 K x1A x1n x1c x6 x7 x8 x23A x23n x23c x24 x25 true w) (∃ (n36 : Int), w.cell? (x8.add 3) = some (.int .i64 n36) ∧ ref12_From.p9 L0 K x1A x1n x1c x6 x7 x8 x23A x23n x23c x24 x25 (n36 != (0 : Int)) w)) (ref12_From.p9 L0 K x1A x1n x1c x6 x7 x8 x23A x23n x23c x24 x25 false w))))
abbrev ref12_From.p7 (L0 : Option Addr → Nat → Nat → Addr → Option Addr → Nat → Nat → Int → Int → World → Prop) (K : Value → World → Prop) (x1A : Option Addr) (x1n : Nat) (x1c : Nat) (x6 : Addr) (x23A : Option Addr) (x23n : Nat) (x23c : Nat) (x24 : Int) (x25 : Int) (w : World) : Prop :=
  (0 ≤ x25 ∧ x25 < ((x23n : Nat) : Int)) ∧ ∃ (a3 : Addr), x23A = some a3 ∧ ∃ (n4 : Int), w.cell? (a3.add (x25.toNat * 4)) = some (.int .i64 n4) ∧ ∃ (b5 : Bool), w.cell? ((a3.add (x25.toNat * 4)).add 1) = some (.bool b5) ∧ ∃ (n6 : Int), w.cell? ((a3.add (x25.toNat * 4)).add 2) = some (.int .i64 n6) ∧ ∃ (n7 : Int), w.cell? ((a3.add (x25.toNat * 4)).add 3) = some (.int .i64 n7) ∧ wlet (w.alloc (.cells #[.int .i64 0, .bool false, .int .i64 0, .int .i64 0] 33)) fun w8 => canStore w8 (⟨w.heap.size, 0, none⟩) ∧ wlet (w8.setCell (⟨w.heap.size, 0, none⟩) (.int .i64 n4)) fun w9 => canStore w9 (⟨w.heap.size, 1, none⟩) ∧ wlet (w9.setCell (⟨w.heap.size, 1, none⟩) (.bool b5)) fun w10 => canStore w10 (⟨w.heap.size, 2, none⟩) ∧ wlet (w10.setCell (⟨w.heap.size, 2, none⟩) (.int .i64 n6)) fun w11 => canStore w11 (⟨w.heap.size, 3, none⟩) ∧ wlet (w11.setCell (⟨w.heap.size, 3, none⟩) (.int .i64 n7)) fun w12 => ref12_From.p8 L0 K x1A x1n x1c x6 x25 (⟨w.heap.size, 0, none⟩) x23A x23n x23c x24 x25 w12
abbrev ref12_From.p14 (K : Value → World → Prop) (x6 : Addr) (w : World) : Prop :=
  K (.tuple #[.pointer (some x6), .int .i64 0]) w
abbrev ref12_From.p13 (K : Value → World → Prop) (x6 : Addr) (x82 : Bool) (w : World) : Prop :=
  condP x82 (K (.tuple #[.pointer none, .int .i64 4]) w) (ref12_From.p14 K x6 w)
abbrev ref12_From.p12 (K : Value → World → Prop) (x1A : Option Addr) (x1n : Nat) (x1c : Nat) (x6 : Addr) (w : World) : Prop :=
  condP (decide ((0 : Int) < ((x1n : Nat) : Int))) ((0 ≤ (IntKind.wrap .i64 (((x1n : Nat) : Int) - (1 : Int))) ∧ (IntKind.wrap .i64 (((x1n : Nat) : Int) - (1 : Int))) < ((x1n : Nat) : Int)) ∧ ∃ (a37 : Addr), x1A = some a37 ∧ ∃ (n38 : Int), w.cell? (a37.add ((IntKind.wrap .i64 (((x1n : Nat) : Int) - (1 : Int))).toNat * 4)) = some (.int .i64 n38) ∧ ref12_From.p13 K x6 (n38 == (0 : Int)) w) (ref12_From.p13 K x6 false w)
abbrev ref12_From.p6 (L0 : Option Addr → Nat → Nat → Addr → Option Addr → Nat → Nat → Int → Int → World → Prop) (K : Value → World → Prop) (x1A : Option Addr) (x1n : Nat) (x1c : Nat) (x6 : Addr) (x23A : Option Addr) (x23n : Nat) (x23c : Nat) (x24 : Int) (x25 : Int) (x26 : Bool) (w : World) : Prop :=
  condP x26 (ref12_From.p7 L0 K x1A x1n x1c x6 x23A x23n x23c x24 x25 w) (ref12_From.p12 K x1A x1n x1c x6 w)
abbrev ref12_From.b0 (L0 : Option Addr → Nat → Nat → Addr → Option Addr → Nat → Nat → Int → Int → World → Prop) (K : Value → World → Prop) (x1A : Option Addr) (x1n : Nat) (x1c : Nat) (x6 : Addr) (x23A : Option Addr) (x23n : Nat) (x23c : Nat) (x24 : Int) (x25 : Int) (w : World) : Prop :=
  ref12_From.p6 L0 K x1A x1n x1c x6 x23A x23n x23c x24 x25 (decide (x25 < x24)) w
def ref12_From.l0 (K : Value → World → Prop) (k : Nat) : Option Addr → Nat → Nat → Addr → Option Addr → Nat → Nat → Int → Int → World → Prop :=
  Nat.rec (motive := fun _ => Option Addr → Nat → Nat → Addr → Option Addr → Nat → Nat → Int → Int → World → Prop) (fun _ _ _ _ _ _ _ _ _ _ => False) (fun _ ih => ref12_From.b0 ih K) k
theorem ref12_From.l0_succ (K : Value → World → Prop) (k : Nat) (x1A : Option Addr) (x1n : Nat) (x1c : Nat) (x6 : Addr) (x23A : Option Addr) (x23n : Nat) (x23c : Nat) (x24 : Int) (x25 : Int) (w : World) : ref12_From.l0 K (k + 1) x1A x1n x1c x6 x23A x23n x23c x24 x25 w = ref12_From.b0 (ref12_From.l0 K k) K x1A x1n x1c x6 x23A x23n x23c x24 x25 w := rfl
abbrev ref12_From.p5 (K : Value → World → Prop) (x1A : Option Addr) (x1n : Nat) (x1c : Nat) (x6 : Addr) (x23A : Option Addr) (x23n : Nat) (x23c : Nat) (x24 : Int) (x25 : Int) (w : World) : Prop :=
  ∃ k, ref12_From.l0 K k x1A x1n x1c x6 x23A x23n x23c x24 x25 w
abbrev ref12_From.p4 (K : Value → World → Prop) (x1A : Option Addr) (x1n : Nat) (x1c : Nat) (x6 : Addr) (w : World) : Prop :=
  ref12_From.p5 K x1A x1n x1c x6 x1A x1n x1c ((x1n : Nat) : Int) 0 w
abbrev ref12_From.p3 (K : Value → World → Prop) (x0 : Int) (x1A : Option Addr) (x1n : Nat) (x1c : Nat) (w : World) : Prop :=
  (0 ≤ x0 ∧ x0 ≤ x0 ∧ (32 : Int) * x0 ≤ 281474976710656 ∧ x0 ≤ 9223372036854775807) ∧ wlet (w.alloc (.cells (madeCells #[.int .i64 0, .bool false, .int .i64 0, .int .i64 0] (x0.toNat * 4)) 33)) fun w1 => wlet (w1.alloc (.cells #[.slice (some ⟨w.heap.size, 0, none⟩) x0.toNat x0.toNat] 72)) fun w2 => ref12_From.p4 K x1A x1n x1c (⟨w1.heap.size, 0, none⟩) w2
abbrev ref12_From.p2 (K : Value → World → Prop) (x0 : Int) (x1A : Option Addr) (x1n : Nat) (x1c : Nat) (w : World) : Prop :=
  condP (decide (x0 < ((x1n : Nat) : Int))) (K (.tuple #[.pointer none, .int .i64 4]) w) (ref12_From.p3 K x0 x1A x1n x1c w)
abbrev ref12_From.p1 (K : Value → World → Prop) (x0 : Int) (x1A : Option Addr) (x1n : Nat) (x1c : Nat) (x14 : Bool) (w : World) : Prop :=
  condP x14 (K (.tuple #[.pointer none, .int .i64 2]) w) (ref12_From.p2 K x0 x1A x1n x1c w)
abbrev ref12_From.p0 (K : Value → World → Prop) (x0 : Int) (x1A : Option Addr) (x1n : Nat) (x1c : Nat) (w : World) : Prop :=
  condP (decide (x0 < (1 : Int))) (ref12_From.p1 K x0 x1A x1n x1c true w) (ref12_From.p1 K x0 x1A x1n x1c (decide ((4096 : Int) < x0)) w)
abbrev ref12_From.F (q0 : Int) (q1A : Option Addr) (q1n : Nat) (q1c : Nat) (K : Value → World → Prop) (w : World) : Prop :=
  ref12_From.p0 K q0 q1A q1n q1c w
theorem ref12_From.ok {q0 : Int} {q1A : Option Addr} {q1n : Nat} {q1c : Nat} {K : Value → World → Prop} {w : World} (h : ref12_From.F q0 q1A q1n q1c K w) :
    CallsE Try.prog 21 #[.int .i64 q0, .slice q1A q1n q1c] w K := by
  refine calls_of_J (n := 84) (rs := [.tmp 4, .tmp 5]) Try.func21 rfl rfl rfl rfl ?_
  refine J_seq (fun σ w => vI .i64 (σ 0) fun x0 => vS (σ 1) fun x1A x1n x1c => ref12_From.p0 K x0 x1A x1n x1c w) ?_ ?_
  ·
    exact sh_sound _ _ _ _ (Eq.mp (by kernel_rfl) h)
  · intro σ w h
    obtain ⟨x0, e0, h⟩ := vI_elim h
    obtain ⟨x1A, x1n, x1c, e1, h⟩ := vS_elim h
    refine J.sub ?_ (((Sub.base _).upd e0).upd e1)
    clear e0 e1
    refine J_seq (fun σ w => vI .i64 (σ 0) fun x0 => vS (σ 1) fun x1A x1n x1c => ref12_From.p2 K x0 x1A x1n x1c w) ?_ ?_
    ·
      refine J_seq (fun σ w => vI .i64 (σ 0) fun x0 => vS (σ 1) fun x1A x1n x1c => vB (σ 14) fun x14 => ref12_From.p1 K x0 x1A x1n x1c x14 w) ?_ ?_
      ·
        exact sh_sound _ _ _ _ (Eq.mp (by kernel_rfl) h)
      · intro σ w h
        obtain ⟨x0, e0, h⟩ := vI_elim h
        obtain ⟨x1A, x1n, x1c, e1, h⟩ := vS_elim h
        obtain ⟨x14, e14, h⟩ := vB_elim h
        refine J.sub ?_ ((((Sub.base _).upd e0).upd e1).upd e14)
        clear e0 e1 e14
        exact sh_sound _ _ _ _ (Eq.mp (by kernel_rfl) h)
    · intro σ w h
      obtain ⟨x0, e0, h⟩ := vI_elim h
      obtain ⟨x1A, x1n, x1c, e1, h⟩ := vS_elim h
      refine J.sub ?_ (((Sub.base _).upd e0).upd e1)
      clear e0 e1
      refine J_seq (fun σ w => vI .i64 (σ 0) fun x0 => vS (σ 1) fun x1A x1n x1c => ref12_From.p3 K x0 x1A x1n x1c w) ?_ ?_
      ·
        exact sh_sound _ _ _ _ (Eq.mp (by kernel_rfl) h)
      · intro σ w h
        obtain ⟨x0, e0, h⟩ := vI_elim h
        obtain ⟨x1A, x1n, x1c, e1, h⟩ := vS_elim h
        refine J.sub ?_ (((Sub.base _).upd e0).upd e1)
        clear e0 e1
        refine J_seq (fun σ w => vS (σ 1) fun x1A x1n x1c => vPa (σ 6) fun x6 => ref12_From.p4 K x1A x1n x1c x6 w) ?_ ?_
        ·
          exact sh_sound _ _ _ _ (Eq.mp (by kernel_rfl) h)
        · intro σ w h
          obtain ⟨x1A, x1n, x1c, e1, h⟩ := vS_elim h
          obtain ⟨x6, e6, h⟩ := vPa_elim h
          refine J.sub ?_ (((Sub.base _).upd e1).upd e6)
          clear e1 e6
          refine J_seq (fun σ w => vS (σ 1) fun x1A x1n x1c => vPa (σ 6) fun x6 => ref12_From.p12 K x1A x1n x1c x6 w) ?_ ?_
          ·
            refine J_seq (fun σ w => vS (σ 1) fun x1A x1n x1c => vPa (σ 6) fun x6 => vS (σ 23) fun x23A x23n x23c => vI .i64 (σ 24) fun x24 => vI .i64 (σ 25) fun x25 => ref12_From.p5 K x1A x1n x1c x6 x23A x23n x23c x24 x25 w) ?_ ?_
            ·
              exact sh_sound _ _ _ _ (Eq.mp (by kernel_rfl) h)
            · intro σ w h
              obtain ⟨x1A, x1n, x1c, e1, h⟩ := vS_elim h
              obtain ⟨x6, e6, h⟩ := vPa_elim h
              obtain ⟨x23A, x23n, x23c, e23, h⟩ := vS_elim h
              obtain ⟨x24, e24, h⟩ := vI_elim h
              obtain ⟨x25, e25, h⟩ := vI_elim h
              refine J.sub ?_ ((((((Sub.base _).upd e1).upd e6).upd e23).upd e24).upd e25)
              clear e1 e6 e23 e24 e25
              refine J_block ?_
              refine J_loop (fun k σ w => vS (σ 1) fun x1A x1n x1c => vPa (σ 6) fun x6 => vS (σ 23) fun x23A x23n x23c => vI .i64 (σ 24) fun x24 => vI .i64 (σ 25) fun x25 => ref12_From.l0 K k x1A x1n x1c x6 x23A x23n x23c x24 x25 w) (Eq.mp (by kernel_rfl) h) ?_ ?_
              · intro σ w h
                obtain ⟨x1A, x1n, x1c, e1, h⟩ := vS_elim h
                obtain ⟨x6, e6, h⟩ := vPa_elim h
                obtain ⟨x23A, x23n, x23c, e23, h⟩ := vS_elim h
                obtain ⟨x24, e24, h⟩ := vI_elim h
                obtain ⟨x25, e25, h⟩ := vI_elim h
                exact h
              · intro k0 σ w h
                obtain ⟨x1A, x1n, x1c, e1, h⟩ := vS_elim h
                obtain ⟨x6, e6, h⟩ := vPa_elim h
                obtain ⟨x23A, x23n, x23c, e23, h⟩ := vS_elim h
                obtain ⟨x24, e24, h⟩ := vI_elim h
                obtain ⟨x25, e25, h⟩ := vI_elim h
                refine J.sub ?_ ((((((Sub.base _).upd e1).upd e6).upd e23).upd e24).upd e25)
                clear e1 e6 e23 e24 e25
                refine J_seq (fun σ w => vS (σ 1) fun x1A x1n x1c => vPa (σ 6) fun x6 => vS (σ 23) fun x23A x23n x23c => vI .i64 (σ 24) fun x24 => vI .i64 (σ 25) fun x25 => vB (σ 26) fun x26 => ref12_From.p6 (ref12_From.l0 K k0) K x1A x1n x1c x6 x23A x23n x23c x24 x25 x26 w) ?_ ?_
                ·
                  exact sh_sound _ _ _ _ (Eq.mp (by kernel_rfl) h)
                · intro σ w h
                  obtain ⟨x1A, x1n, x1c, e1, h⟩ := vS_elim h
                  obtain ⟨x6, e6, h⟩ := vPa_elim h
                  obtain ⟨x23A, x23n, x23c, e23, h⟩ := vS_elim h
                  obtain ⟨x24, e24, h⟩ := vI_elim h
                  obtain ⟨x25, e25, h⟩ := vI_elim h
                  obtain ⟨x26, e26, h⟩ := vB_elim h
                  refine J.sub ?_ (((((((Sub.base _).upd e1).upd e6).upd e23).upd e24).upd e25).upd e26)
                  clear e1 e6 e23 e24 e25 e26
                  refine J_seq (fun σ w => vS (σ 1) fun x1A x1n x1c => vPa (σ 6) fun x6 => vS (σ 23) fun x23A x23n x23c => vI .i64 (σ 24) fun x24 => vI .i64 (σ 25) fun x25 => ref12_From.p7 (ref12_From.l0 K k0) K x1A x1n x1c x6 x23A x23n x23c x24 x25 w) ?_ ?_
                  ·
                    exact sh_sound _ _ _ _ (Eq.mp (by kernel_rfl) h)
                  · intro σ w h
                    obtain ⟨x1A, x1n, x1c, e1, h⟩ := vS_elim h
                    obtain ⟨x6, e6, h⟩ := vPa_elim h
                    obtain ⟨x23A, x23n, x23c, e23, h⟩ := vS_elim h
                    obtain ⟨x24, e24, h⟩ := vI_elim h
                    obtain ⟨x25, e25, h⟩ := vI_elim h
                    refine J.sub ?_ ((((((Sub.base _).upd e1).upd e6).upd e23).upd e24).upd e25)
                    clear e1 e6 e23 e24 e25
                    refine J_seq (fun σ w => vS (σ 1) fun x1A x1n x1c => vPa (σ 6) fun x6 => vS (σ 23) fun x23A x23n x23c => vI .i64 (σ 24) fun x24 => vI .i64 (σ 25) fun x25 => ref12_From.p11 (ref12_From.l0 K k0) K x1A x1n x1c x6 x23A x23n x23c x24 x25 w) ?_ ?_
                    ·
                      refine J_block ?_
                      refine J_seq (fun σ w => vS (σ 1) fun x1A x1n x1c => vPa (σ 6) fun x6 => vI .i64 (σ 7) fun x7 => vPa (σ 8) fun x8 => vS (σ 23) fun x23A x23n x23c => vI .i64 (σ 24) fun x24 => vI .i64 (σ 25) fun x25 => ref12_From.p8 (ref12_From.l0 K k0) K x1A x1n x1c x6 x7 x8 x23A x23n x23c x24 x25 w) ?_ ?_
                      ·
                        exact sh_sound _ _ _ _ (Eq.mp (by kernel_rfl) h)
                      · intro σ w h
                        obtain ⟨x1A, x1n, x1c, e1, h⟩ := vS_elim h
                        obtain ⟨x6, e6, h⟩ := vPa_elim h
                        obtain ⟨x7, e7, h⟩ := vI_elim h
                        obtain ⟨x8, e8, h⟩ := vPa_elim h
                        obtain ⟨x23A, x23n, x23c, e23, h⟩ := vS_elim h
                        obtain ⟨x24, e24, h⟩ := vI_elim h
                        obtain ⟨x25, e25, h⟩ := vI_elim h
                        refine J.sub ?_ ((((((((Sub.base _).upd e1).upd e6).upd e7).upd e8).upd e23).upd e24).upd e25)
                        clear e1 e6 e7 e8 e23 e24 e25
                        refine J_seq (fun σ w => vS (σ 1) fun x1A x1n x1c => vPa (σ 6) fun x6 => vI .i64 (σ 7) fun x7 => vPa (σ 8) fun x8 => vS (σ 23) fun x23A x23n x23c => vI .i64 (σ 24) fun x24 => vI .i64 (σ 25) fun x25 => ref12_From.p10 (ref12_From.l0 K k0) K x1A x1n x1c x6 x7 x8 x23A x23n x23c x24 x25 w) ?_ ?_
                        ·
                          refine J_seq (fun σ w => vS (σ 1) fun x1A x1n x1c => vPa (σ 6) fun x6 => vI .i64 (σ 7) fun x7 => vPa (σ 8) fun x8 => vS (σ 23) fun x23A x23n x23c => vI .i64 (σ 24) fun x24 => vI .i64 (σ 25) fun x25 => vB (σ 61) fun x61 => ref12_From.p9 (ref12_From.l0 K k0) K x1A x1n x1c x6 x7 x8 x23A x23n x23c x24 x25 x61 w) ?_ ?_
                          ·
                            exact sh_sound _ _ _ _ (Eq.mp (by kernel_rfl) h)
                          · intro σ w h
                            obtain ⟨x1A, x1n, x1c, e1, h⟩ := vS_elim h
                            obtain ⟨x6, e6, h⟩ := vPa_elim h
                            obtain ⟨x7, e7, h⟩ := vI_elim h
                            obtain ⟨x8, e8, h⟩ := vPa_elim h
                            obtain ⟨x23A, x23n, x23c, e23, h⟩ := vS_elim h
                            obtain ⟨x24, e24, h⟩ := vI_elim h
                            obtain ⟨x25, e25, h⟩ := vI_elim h
                            obtain ⟨x61, e61, h⟩ := vB_elim h
                            refine J.sub ?_ (((((((((Sub.base _).upd e1).upd e6).upd e7).upd e8).upd e23).upd e24).upd e25).upd e61)
                            clear e1 e6 e7 e8 e23 e24 e25 e61
                            exact sh_sound _ _ _ _ (Eq.mp (by kernel_rfl) h)
                        · intro σ w h
                          obtain ⟨x1A, x1n, x1c, e1, h⟩ := vS_elim h
                          obtain ⟨x6, e6, h⟩ := vPa_elim h
                          obtain ⟨x7, e7, h⟩ := vI_elim h
                          obtain ⟨x8, e8, h⟩ := vPa_elim h
                          obtain ⟨x23A, x23n, x23c, e23, h⟩ := vS_elim h
                          obtain ⟨x24, e24, h⟩ := vI_elim h
                          obtain ⟨x25, e25, h⟩ := vI_elim h
                          refine J.sub ?_ ((((((((Sub.base _).upd e1).upd e6).upd e7).upd e8).upd e23).upd e24).upd e25)
                          clear e1 e6 e7 e8 e23 e24 e25
                          exact J_held [7] [(0, 0), (1, 0), (2, 0), (4, 0), (3, 1), (5, 1), (6, 0), (7, 3)] (by kernel_rfl) (Eq.mp (by kernel_rfl) h)
                    · intro σ w h
                      obtain ⟨x1A, x1n, x1c, e1, h⟩ := vS_elim h
                      obtain ⟨x6, e6, h⟩ := vPa_elim h
                      obtain ⟨x23A, x23n, x23c, e23, h⟩ := vS_elim h
                      obtain ⟨x24, e24, h⟩ := vI_elim h
                      obtain ⟨x25, e25, h⟩ := vI_elim h
                      refine J.sub ?_ ((((((Sub.base _).upd e1).upd e6).upd e23).upd e24).upd e25)
                      clear e1 e6 e23 e24 e25
                      exact sh_sound _ _ _ _ (Eq.mp (by kernel_rfl) h)
          · intro σ w h
            obtain ⟨x1A, x1n, x1c, e1, h⟩ := vS_elim h
            obtain ⟨x6, e6, h⟩ := vPa_elim h
            refine J.sub ?_ (((Sub.base _).upd e1).upd e6)
            clear e1 e6
            refine J_seq (fun σ w => vPa (σ 6) fun x6 => ref12_From.p14 K x6 w) ?_ ?_
            ·
              refine J_seq (fun σ w => vPa (σ 6) fun x6 => vB (σ 82) fun x82 => ref12_From.p13 K x6 x82 w) ?_ ?_
              ·
                exact sh_sound _ _ _ _ (Eq.mp (by kernel_rfl) h)
              · intro σ w h
                obtain ⟨x6, e6, h⟩ := vPa_elim h
                obtain ⟨x82, e82, h⟩ := vB_elim h
                refine J.sub ?_ (((Sub.base _).upd e6).upd e82)
                clear e6 e82
                exact sh_sound _ _ _ _ (Eq.mp (by kernel_rfl) h)
            · intro σ w h
              obtain ⟨x6, e6, h⟩ := vPa_elim h
              refine J.sub ?_ ((Sub.base _).upd e6)
              clear e6
              exact sh_sound _ _ _ _ (Eq.mp (by kernel_rfl) h)

/-! ### hayloft/hayloftlaw12.do: function 22 -/
abbrev law12_do.p9 (K : Value → World → Prop) (x8 : Bool) (w : World) : Prop :=
  K (.bool x8) w
abbrev law12_do.p8 (K : Value → World → Prop) (x10 : Int) (x11 : Int) (x12 : Int) (x13 : Int) (w : World) : Prop :=
  condP (x10 == x12) (law12_do.p9 K (x11 == x13) w) (law12_do.p9 K false w)
abbrev law12_do.p7 (K : Value → World → Prop) (x3 : Option Addr) (x10 : Int) (x11 : Int) (x12 : Int) (x13 : Int) (w : World) : Prop :=
  condP (x13 == (0 : Int)) (∃ (a32 : Addr), x3 = some a32 ∧ ∃ (A33 : Option Addr) (m34 : Nat) (c35 : Nat), w.cell? a32 = some (.slice A33 m34 c35) ∧ wlet (w.alloc (.cells #[.int .u64 x12] 25)) fun w36 => SemJ Try.prog (Builtin.append_ #[38, 38] 38 #[.slice A33 m34 c35, .slice (some ⟨w.heap.size, 0, none⟩) 1 1]) (fun v37 w38 => ∃ (A39 : Option Addr) (m40 : Nat) (c41 : Nat), v37 = .slice A39 m40 c41 ∧ ∃ (a42 : Addr), x3 = some a42 ∧ canStore w38 a42 ∧ wlet (w38.setCell a42 (.slice A39 m40 c41)) fun w43 => law12_do.p8 K x10 x11 x12 x13 w43) w36) (law12_do.p8 K x10 x11 x12 x13 w)
abbrev law12_do.p6 (K : Value → World → Prop) (x1 : Option Addr) (x3 : Option Addr) (x6 : Addr) (x10 : Int) (x11 : Int) (w : World) : Prop :=
  ∃ (n26 : Int), w.cell? (x6.add 3) = some (.int .i64 n26) ∧ ∃ (n27 : Int), w.cell? (x6.add 4) = some (.int .i64 n27) ∧ CallsE Try.prog 30 #[.pointer x1, .int .i64 n26, .int .i64 n27] w (fun v28 w29 => ∃ (n30 : Int) (n31 : Int), v28 = .tuple #[.int .u64 n30, .int .i64 n31] ∧ law12_do.p7 K x3 x10 x11 n30 n31 w29)
abbrev law12_do.p13 (K : Value → World → Prop) (x8 : Bool) (w : World) : Prop :=
  K (.bool x8) w
abbrev law12_do.p12 (K : Value → World → Prop) (x14 : Int) (x15 : Int) (x16 : Int) (x17 : Int) (x18 : Int) (x19 : Int) (w : World) : Prop :=
  condP (x14 == x17) (condP (x15 == x18) (law12_do.p13 K (x16 == x19) w) (law12_do.p13 K false w)) (law12_do.p13 K false w)
abbrev law12_do.p11 (K : Value → World → Prop) (x1 : Option Addr) (x9 : Int) (x14 : Int) (x15 : Int) (x16 : Int) (w : World) : Prop :=
  CallsE Try.prog 31 #[.pointer x1, .int .u64 x9] w (fun v49 w50 => ∃ (n51 : Int) (n52 : Int) (n53 : Int), v49 = .tuple #[.int .i64 n51, .int .i64 n52, .int .i64 n53] ∧ law12_do.p12 K x14 x15 x16 n51 n52 n53 w50)
abbrev law12_do.p15 (K : Value → World → Prop) (x8 : Bool) (w : World) : Prop :=
  K (.bool x8) w
abbrev law12_do.p17 (K : Value → World → Prop) (w : World) : Prop :=
  K (.bool true) w
abbrev law12_do.p16 (K : Value → World → Prop) (x0 : Option Addr) (x1 : Option Addr) (x9 : Int) (x131 : Bool) (w : World) : Prop :=
  condP x131 (CallsE Try.prog 15 #[.pointer x0, .int .u64 x9] w (fun v63 w64 => ∃ (n65 : Int), v63 = .int .i64 n65 ∧ CallsE Try.prog 33 #[.pointer x1, .int .u64 x9] w64 (fun v66 w67 => ∃ (n68 : Int), v66 = .int .i64 n68 ∧ K (.bool (n65 == n68)) w67))) (law12_do.p17 K w)
abbrev law12_do.p14 (K : Value → World → Prop) (x0 : Option Addr) (x1 : Option Addr) (x6 : Addr) (x9 : Int) (x48 : Int) (x117 : Bool) (w : World) : Prop :=
  condP x117 (∃ (S54 : Array Obj → Prop), S54 w.heap ∧ ∃ (n55 : Int), (∀ w' : World, S54 w'.heap → w'.cell? (x6.add 4) = some (.int .i64 n55)) ∧ ∃ (n56 : Int), (∀ w' : World, S54 w'.heap → w'.cell? (x6.add 4) = some (.int .i64 n56)) ∧ CallsE Try.prog 20 #[.pointer x0, .int .u64 x9, .int .i64 n55] w (fun v57 w58 => ∃ (n59 : Int), v57 = .int .i64 n59 ∧ S54 w58.heap ∧ CallsE Try.prog 32 #[.pointer x1, .int .u64 x9, .int .i64 n56] w58 (fun v60 w61 => ∃ (n62 : Int), v60 = .int .i64 n62 ∧ S54 w61.heap ∧ law12_do.p15 K (n59 == n62) w61))) (condP (x48 == (4 : Int)) (law12_do.p16 K x0 x1 x9 (x48 == (4 : Int)) w) (law12_do.p16 K x0 x1 x9 (x48 == (7 : Int)) w))
abbrev law12_do.p10 (K : Value → World → Prop) (x0 : Option Addr) (x1 : Option Addr) (x6 : Addr) (x9 : Int) (x48 : Int) (x87 : Bool) (w : World) : Prop :=
  condP x87 (CallsE Try.prog 19 #[.pointer x0, .int .u64 x9] w (fun v44 w45 => ∃ (n46 : Int) (n47 : Int) (n48 : Int), v44 = .tuple #[.int .i64 n46, .int .i64 n47, .int .i64 n48] ∧ law12_do.p11 K x1 x9 n46 n47 n48 w45)) (condP (x48 == (3 : Int)) (law12_do.p14 K x0 x1 x6 x9 x48 (x48 == (3 : Int)) w) (law12_do.p14 K x0 x1 x6 x9 x48 (x48 == (6 : Int)) w))
abbrev law12_do.p5 (K : Value → World → Prop) (x0 : Option Addr) (x1 : Option Addr) (x3 : Option Addr) (x6 : Addr) (x9 : Int) (x48 : Int) (x49 : Bool) (w : World) : Prop :=
  condP x49 (∃ (n20 : Int), w.cell? (x6.add 3) = some (.int .i64 n20) ∧ ∃ (n21 : Int), w.cell? (x6.add 4) = some (.int .i64 n21) ∧ CallsE Try.prog 17 #[.pointer x0, .int .i64 n20, .int .i64 n21] w (fun v22 w23 => ∃ (n24 : Int) (n25 : Int), v22 = .tuple #[.int .u64 n24, .int .i64 n25] ∧ law12_do.p6 K x1 x3 x6 n24 n25 w23)) (condP (x48 == (2 : Int)) (law12_do.p10 K x0 x1 x6 x9 x48 (x48 == (2 : Int)) w) (law12_do.p10 K x0 x1 x6 x9 x48 (x48 == (5 : Int)) w))
abbrev law12_do.p4 (K : Value → World → Prop) (x0 : Option Addr) (x1 : Option Addr) (x3 : Option Addr) (x6 : Addr) (x9 : Int) (x48 : Int) (w : World) : Prop :=
  law12_do.p5 K x0 x1 x3 x6 x9 x48 (x48 == (1 : Int)) w
abbrev law12_do.p3 (K : Value → World → Prop) (x0 : Option Addr) (x1 : Option Addr) (x3 : Option Addr) (x6 : Addr) (x9 : Int) (w : World) : Prop :=
  ∃ (n19 : Int), w.cell? x6 = some (.int .i64 n19) ∧ law12_do.p4 K x0 x1 x3 x6 x9 n19 w
abbrev law12_do.p2 (K : Value → World → Prop) (x0 : Option Addr) (x1 : Option Addr) (x3 : Option Addr) (x6 : Addr) (x9 : Int) (x31 : Bool) (w : World) : Prop :=
  condP x31 (∃ (a8 : Addr), x3 = some a8 ∧ ∃ (A9 : Option Addr) (m10 : Nat) (c11 : Nat), w.cell? a8 = some (.slice A9 m10 c11) ∧ ∃ (n12 : Int), w.cell? (x6.add 1) = some (.int .i64 n12) ∧ ∃ (a13 : Addr), x3 = some a13 ∧ ∃ (A14 : Option Addr) (m15 : Nat) (c16 : Nat), w.cell? a13 = some (.slice A14 m15 c16) ∧ (IntKind.wrap .u64 ((m15 : Nat) : Int)) ≠ 0 ∧ (0 ≤ (IntKind.wrap .i64 (Int.tmod (IntKind.wrap .u64 n12) (IntKind.wrap .u64 ((m15 : Nat) : Int)))) ∧ (IntKind.wrap .i64 (Int.tmod (IntKind.wrap .u64 n12) (IntKind.wrap .u64 ((m15 : Nat) : Int)))) < ((m10 : Nat) : Int)) ∧ ∃ (a17 : Addr), A9 = some a17 ∧ ∃ (n18 : Int), w.cell? (a17.add ((IntKind.wrap .i64 (Int.tmod (IntKind.wrap .u64 n12) (IntKind.wrap .u64 ((m15 : Nat) : Int)))).toNat)) = some (.int .u64 n18) ∧ law12_do.p3 K x0 x1 x3 x6 n18 w) (law12_do.p3 K x0 x1 x3 x6 x9 w)
abbrev law12_do.p1 (K : Value → World → Prop) (x0 : Option Addr) (x1 : Option Addr) (x3 : Option Addr) (x6 : Addr) (x9 : Int) (w : World) : Prop :=
  ∃ (n3 : Int), w.cell? x6 = some (.int .i64 n3) ∧ condP (decide ((5 : Int) ≤ n3)) (∃ (a4 : Addr), x3 = some a4 ∧ ∃ (A5 : Option Addr) (m6 : Nat) (c7 : Nat), w.cell? a4 = some (.slice A5 m6 c7) ∧ law12_do.p2 K x0 x1 x3 x6 x9 (decide ((0 : Int) < ((m6 : Nat) : Int))) w) (law12_do.p2 K x0 x1 x3 x6 x9 false w)
abbrev law12_do.p0 (K : Value → World → Prop) (x0 : Option Addr) (x1 : Option Addr) (x3 : Option Addr) (x6 : Addr) (w : World) : Prop :=
  ∃ (n2 : Int), w.cell? (x6.add 2) = some (.int .u64 n2) ∧ law12_do.p1 K x0 x1 x3 x6 n2 w
abbrev law12_do.F (q0 : Option Addr) (q1 : Option Addr) (q2_0 : Int) (q2_1 : Int) (q2_2 : Int) (q2_3 : Int) (q2_4 : Int) (q3 : Option Addr) (K : Value → World → Prop) (w : World) : Prop :=
  wlet (w.alloc (.cells #[.int .i64 q2_0, .int .i64 q2_1, .int .u64 q2_2, .int .i64 q2_3, .int .i64 q2_4] 40)) fun w1 => law12_do.p0 K q0 q1 q3 (⟨w.heap.size, 0, none⟩) w1
theorem law12_do.ok {q0 : Option Addr} {q1 : Option Addr} {q2_0 : Int} {q2_1 : Int} {q2_2 : Int} {q2_3 : Int} {q2_4 : Int} {q3 : Option Addr} {K : Value → World → Prop} {w : World} (h : law12_do.F q0 q1 q2_0 q2_1 q2_2 q2_3 q2_4 q3 K w) :
    CallsE Try.prog 22 #[.pointer q0, .pointer q1, .agg #[.int .i64 q2_0, .int .i64 q2_1, .int .u64 q2_2, .int .i64 q2_3, .int .i64 q2_4], .pointer q3] w K := by
  refine calls_of_J (n := 141) (rs := [.tmp 8]) Try.func22 rfl rfl rfl rfl ?_
  refine J_seq (fun σ w => vP (σ 0) fun x0 => vP (σ 1) fun x1 => vP (σ 3) fun x3 => vPa (σ 6) fun x6 => law12_do.p0 K x0 x1 x3 x6 w) ?_ ?_
  ·
    exact sh_sound _ _ _ _ (Eq.mp (by kernel_rfl) h)
  · intro σ w h
    obtain ⟨x0, e0, h⟩ := vP_elim h
    obtain ⟨x1, e1, h⟩ := vP_elim h
    obtain ⟨x3, e3, h⟩ := vP_elim h
    obtain ⟨x6, e6, h⟩ := vPa_elim h
    refine J.sub ?_ (((((Sub.base _).upd e0).upd e1).upd e3).upd e6)
    clear e0 e1 e3 e6
    refine J_seq (fun σ w => vP (σ 0) fun x0 => vP (σ 1) fun x1 => vP (σ 3) fun x3 => vPa (σ 6) fun x6 => vI .u64 (σ 9) fun x9 => law12_do.p1 K x0 x1 x3 x6 x9 w) ?_ ?_
    ·
      exact sh_sound _ _ _ _ (Eq.mp (by kernel_rfl) h)
    · intro σ w h
      obtain ⟨x0, e0, h⟩ := vP_elim h
      obtain ⟨x1, e1, h⟩ := vP_elim h
      obtain ⟨x3, e3, h⟩ := vP_elim h
      obtain ⟨x6, e6, h⟩ := vPa_elim h
      obtain ⟨x9, e9, h⟩ := vI_elim h
      refine J.sub ?_ ((((((Sub.base _).upd e0).upd e1).upd e3).upd e6).upd e9)
      clear e0 e1 e3 e6 e9
      refine J_seq (fun σ w => vP (σ 0) fun x0 => vP (σ 1) fun x1 => vP (σ 3) fun x3 => vPa (σ 6) fun x6 => vI .u64 (σ 9) fun x9 => law12_do.p3 K x0 x1 x3 x6 x9 w) ?_ ?_
      ·
        refine J_seq (fun σ w => vP (σ 0) fun x0 => vP (σ 1) fun x1 => vP (σ 3) fun x3 => vPa (σ 6) fun x6 => vI .u64 (σ 9) fun x9 => vB (σ 31) fun x31 => law12_do.p2 K x0 x1 x3 x6 x9 x31 w) ?_ ?_
        ·
          exact sh_sound _ _ _ _ (Eq.mp (by kernel_rfl) h)
        · intro σ w h
          obtain ⟨x0, e0, h⟩ := vP_elim h
          obtain ⟨x1, e1, h⟩ := vP_elim h
          obtain ⟨x3, e3, h⟩ := vP_elim h
          obtain ⟨x6, e6, h⟩ := vPa_elim h
          obtain ⟨x9, e9, h⟩ := vI_elim h
          obtain ⟨x31, e31, h⟩ := vB_elim h
          refine J.sub ?_ (((((((Sub.base _).upd e0).upd e1).upd e3).upd e6).upd e9).upd e31)
          clear e0 e1 e3 e6 e9 e31
          exact sh_sound _ _ _ _ (Eq.mp (by kernel_rfl) h)
      · intro σ w h
        obtain ⟨x0, e0, h⟩ := vP_elim h
        obtain ⟨x1, e1, h⟩ := vP_elim h
        obtain ⟨x3, e3, h⟩ := vP_elim h
        obtain ⟨x6, e6, h⟩ := vPa_elim h
        obtain ⟨x9, e9, h⟩ := vI_elim h
        refine J.sub ?_ ((((((Sub.base _).upd e0).upd e1).upd e3).upd e6).upd e9)
        clear e0 e1 e3 e6 e9
        refine J_seq (fun σ w => law12_do.p17 K w) ?_ ?_
        ·
          refine J_seq (fun σ w => vP (σ 0) fun x0 => vP (σ 1) fun x1 => vP (σ 3) fun x3 => vPa (σ 6) fun x6 => vI .u64 (σ 9) fun x9 => vI .i64 (σ 48) fun x48 => law12_do.p4 K x0 x1 x3 x6 x9 x48 w) ?_ ?_
          ·
            exact sh_sound _ _ _ _ (Eq.mp (by kernel_rfl) h)
          · intro σ w h
            obtain ⟨x0, e0, h⟩ := vP_elim h
            obtain ⟨x1, e1, h⟩ := vP_elim h
            obtain ⟨x3, e3, h⟩ := vP_elim h
            obtain ⟨x6, e6, h⟩ := vPa_elim h
            obtain ⟨x9, e9, h⟩ := vI_elim h
            obtain ⟨x48, e48, h⟩ := vI_elim h
            refine J.sub ?_ (((((((Sub.base _).upd e0).upd e1).upd e3).upd e6).upd e9).upd e48)
            clear e0 e1 e3 e6 e9 e48
            refine J_block ?_
            refine J_seq (fun σ w => vP (σ 0) fun x0 => vP (σ 1) fun x1 => vP (σ 3) fun x3 => vPa (σ 6) fun x6 => vI .u64 (σ 9) fun x9 => vI .i64 (σ 48) fun x48 => vB (σ 49) fun x49 => law12_do.p5 K x0 x1 x3 x6 x9 x48 x49 w) ?_ ?_
            ·
              exact sh_sound _ _ _ _ (Eq.mp (by kernel_rfl) h)
            · intro σ w h
              obtain ⟨x0, e0, h⟩ := vP_elim h
              obtain ⟨x1, e1, h⟩ := vP_elim h
              obtain ⟨x3, e3, h⟩ := vP_elim h
              obtain ⟨x6, e6, h⟩ := vPa_elim h
              obtain ⟨x9, e9, h⟩ := vI_elim h
              obtain ⟨x48, e48, h⟩ := vI_elim h
              obtain ⟨x49, e49, h⟩ := vB_elim h
              refine J.sub ?_ ((((((((Sub.base _).upd e0).upd e1).upd e3).upd e6).upd e9).upd e48).upd e49)
              clear e0 e1 e3 e6 e9 e48 e49
              refine J_cond' h (by kernel_rfl) (fun h => ?_) (fun h => ?_)
              ·
                refine J_seq (fun σ w => vP (σ 1) fun x1 => vP (σ 3) fun x3 => vPa (σ 6) fun x6 => vI .u64 (σ 10) fun x10 => vI .i64 (σ 11) fun x11 => law12_do.p6 K x1 x3 x6 x10 x11 w) ?_ ?_
                ·
                  exact sh_sound _ _ _ _ (Eq.mp (by kernel_rfl) h)
                · intro σ w h
                  obtain ⟨x1, e1, h⟩ := vP_elim h
                  obtain ⟨x3, e3, h⟩ := vP_elim h
                  obtain ⟨x6, e6, h⟩ := vPa_elim h
                  obtain ⟨x10, e10, h⟩ := vI_elim h
                  obtain ⟨x11, e11, h⟩ := vI_elim h
                  refine J.sub ?_ ((((((Sub.base _).upd e1).upd e3).upd e6).upd e10).upd e11)
                  clear e1 e3 e6 e10 e11
                  refine J_seq (fun σ w => vP (σ 3) fun x3 => vI .u64 (σ 10) fun x10 => vI .i64 (σ 11) fun x11 => vI .u64 (σ 12) fun x12 => vI .i64 (σ 13) fun x13 => law12_do.p7 K x3 x10 x11 x12 x13 w) ?_ ?_
                  ·
                    exact sh_sound _ _ _ _ (Eq.mp (by kernel_rfl) h)
                  · intro σ w h
                    obtain ⟨x3, e3, h⟩ := vP_elim h
                    obtain ⟨x10, e10, h⟩ := vI_elim h
                    obtain ⟨x11, e11, h⟩ := vI_elim h
                    obtain ⟨x12, e12, h⟩ := vI_elim h
                    obtain ⟨x13, e13, h⟩ := vI_elim h
                    refine J.sub ?_ ((((((Sub.base _).upd e3).upd e10).upd e11).upd e12).upd e13)
                    clear e3 e10 e11 e12 e13
                    refine J_seq (fun σ w => vI .u64 (σ 10) fun x10 => vI .i64 (σ 11) fun x11 => vI .u64 (σ 12) fun x12 => vI .i64 (σ 13) fun x13 => law12_do.p8 K x10 x11 x12 x13 w) ?_ ?_
                    ·
                      exact sh_sound _ _ _ _ (Eq.mp (by kernel_rfl) h)
                    · intro σ w h
                      obtain ⟨x10, e10, h⟩ := vI_elim h
                      obtain ⟨x11, e11, h⟩ := vI_elim h
                      obtain ⟨x12, e12, h⟩ := vI_elim h
                      obtain ⟨x13, e13, h⟩ := vI_elim h
                      refine J.sub ?_ (((((Sub.base _).upd e10).upd e11).upd e12).upd e13)
                      clear e10 e11 e12 e13
                      refine J_seq (fun σ w => vB (σ 8) fun x8 => law12_do.p9 K x8 w) ?_ ?_
                      ·
                        exact sh_sound _ _ _ _ (Eq.mp (by kernel_rfl) h)
                      · intro σ w h
                        obtain ⟨x8, e8, h⟩ := vB_elim h
                        refine J.sub ?_ ((Sub.base _).upd e8)
                        clear e8
                        exact sh_sound _ _ _ _ (Eq.mp (by kernel_rfl) h)
              ·
                refine J_seq (fun σ w => vP (σ 0) fun x0 => vP (σ 1) fun x1 => vPa (σ 6) fun x6 => vI .u64 (σ 9) fun x9 => vI .i64 (σ 48) fun x48 => vB (σ 87) fun x87 => law12_do.p10 K x0 x1 x6 x9 x48 x87 w) ?_ ?_
                ·
                  exact sh_sound _ _ _ _ (Eq.mp (by kernel_rfl) h)
                · intro σ w h
                  obtain ⟨x0, e0, h⟩ := vP_elim h
                  obtain ⟨x1, e1, h⟩ := vP_elim h
                  obtain ⟨x6, e6, h⟩ := vPa_elim h
                  obtain ⟨x9, e9, h⟩ := vI_elim h
                  obtain ⟨x48, e48, h⟩ := vI_elim h
                  obtain ⟨x87, e87, h⟩ := vB_elim h
                  refine J.sub ?_ (((((((Sub.base _).upd e0).upd e1).upd e6).upd e9).upd e48).upd e87)
                  clear e0 e1 e6 e9 e48 e87
                  refine J_cond' h (by kernel_rfl) (fun h => ?_) (fun h => ?_)
                  ·
                    refine J_seq (fun σ w => vP (σ 1) fun x1 => vI .u64 (σ 9) fun x9 => vI .i64 (σ 14) fun x14 => vI .i64 (σ 15) fun x15 => vI .i64 (σ 16) fun x16 => law12_do.p11 K x1 x9 x14 x15 x16 w) ?_ ?_
                    ·
                      exact sh_sound _ _ _ _ (Eq.mp (by kernel_rfl) h)
                    · intro σ w h
                      obtain ⟨x1, e1, h⟩ := vP_elim h
                      obtain ⟨x9, e9, h⟩ := vI_elim h
                      obtain ⟨x14, e14, h⟩ := vI_elim h
                      obtain ⟨x15, e15, h⟩ := vI_elim h
                      obtain ⟨x16, e16, h⟩ := vI_elim h
                      refine J.sub ?_ ((((((Sub.base _).upd e1).upd e9).upd e14).upd e15).upd e16)
                      clear e1 e9 e14 e15 e16
                      refine J_seq (fun σ w => vI .i64 (σ 14) fun x14 => vI .i64 (σ 15) fun x15 => vI .i64 (σ 16) fun x16 => vI .i64 (σ 17) fun x17 => vI .i64 (σ 18) fun x18 => vI .i64 (σ 19) fun x19 => law12_do.p12 K x14 x15 x16 x17 x18 x19 w) ?_ ?_
                      ·
                        exact sh_sound _ _ _ _ (Eq.mp (by kernel_rfl) h)
                      · intro σ w h
                        obtain ⟨x14, e14, h⟩ := vI_elim h
                        obtain ⟨x15, e15, h⟩ := vI_elim h
                        obtain ⟨x16, e16, h⟩ := vI_elim h
                        obtain ⟨x17, e17, h⟩ := vI_elim h
                        obtain ⟨x18, e18, h⟩ := vI_elim h
                        obtain ⟨x19, e19, h⟩ := vI_elim h
                        refine J.sub ?_ (((((((Sub.base _).upd e14).upd e15).upd e16).upd e17).upd e18).upd e19)
                        clear e14 e15 e16 e17 e18 e19
                        refine J_seq (fun σ w => vB (σ 8) fun x8 => law12_do.p13 K x8 w) ?_ ?_
                        ·
                          exact sh_sound _ _ _ _ (Eq.mp (by kernel_rfl) h)
                        · intro σ w h
                          obtain ⟨x8, e8, h⟩ := vB_elim h
                          refine J.sub ?_ ((Sub.base _).upd e8)
                          clear e8
                          exact sh_sound _ _ _ _ (Eq.mp (by kernel_rfl) h)
                  ·
                    refine J_seq (fun σ w => vP (σ 0) fun x0 => vP (σ 1) fun x1 => vPa (σ 6) fun x6 => vI .u64 (σ 9) fun x9 => vI .i64 (σ 48) fun x48 => vB (σ 117) fun x117 => law12_do.p14 K x0 x1 x6 x9 x48 x117 w) ?_ ?_
                    ·
                      exact sh_sound _ _ _ _ (Eq.mp (by kernel_rfl) h)
                    · intro σ w h
                      obtain ⟨x0, e0, h⟩ := vP_elim h
                      obtain ⟨x1, e1, h⟩ := vP_elim h
                      obtain ⟨x6, e6, h⟩ := vPa_elim h
                      obtain ⟨x9, e9, h⟩ := vI_elim h
                      obtain ⟨x48, e48, h⟩ := vI_elim h
                      obtain ⟨x117, e117, h⟩ := vB_elim h
                      refine J.sub ?_ (((((((Sub.base _).upd e0).upd e1).upd e6).upd e9).upd e48).upd e117)
                      clear e0 e1 e6 e9 e48 e117
                      refine J_cond' h (by kernel_rfl) (fun h => ?_) (fun h => ?_)
                      ·
                        refine J_seq (fun σ w => vB (σ 8) fun x8 => law12_do.p15 K x8 w) ?_ ?_
                        ·
                          exact J_held [] [(0, 0), (1, 0), (2, 0), (5, 0), (6, 0), (7, 0), (3, 1), (8, 1), (4, 2), (9, 2), (10, 0), (11, 0)] (by kernel_rfl) (Eq.mp (by kernel_rfl) h)
                        · intro σ w h
                          obtain ⟨x8, e8, h⟩ := vB_elim h
                          refine J.sub ?_ ((Sub.base _).upd e8)
                          clear e8
                          exact sh_sound _ _ _ _ (Eq.mp (by kernel_rfl) h)
                      ·
                        refine J_seq (fun σ w => vP (σ 0) fun x0 => vP (σ 1) fun x1 => vI .u64 (σ 9) fun x9 => vB (σ 131) fun x131 => law12_do.p16 K x0 x1 x9 x131 w) ?_ ?_
                        ·
                          exact sh_sound _ _ _ _ (Eq.mp (by kernel_rfl) h)
                        · intro σ w h
                          obtain ⟨x0, e0, h⟩ := vP_elim h
                          obtain ⟨x1, e1, h⟩ := vP_elim h
                          obtain ⟨x9, e9, h⟩ := vI_elim h
                          obtain ⟨x131, e131, h⟩ := vB_elim h
                          refine J.sub ?_ (((((Sub.base _).upd e0).upd e1).upd e9).upd e131)
                          clear e0 e1 e9 e131
                          exact sh_sound _ _ _ _ (Eq.mp (by kernel_rfl) h)
        · intro σ w h
          refine J.sub ?_ (Sub.base _)
          exact sh_sound _ _ _ _ (Eq.mp (by kernel_rfl) h)

/-! ### hayloft/hayloftlaw12.same: function 23 -/
abbrev law12_same.p1 (K : Value → World → Prop) (x4 : Bool) (w : World) : Prop :=
  K (.bool x4) w
abbrev law12_same.p0 (K : Value → World → Prop) (x0 : Option Addr) (x1 : Option Addr) (w : World) : Prop :=
  CallsE Try.prog 25 #[.pointer x0] w (fun v1 w2 => ∃ (A3 : Option Addr) (m4 : Nat) (c5 : Nat), v1 = .slice A3 m4 c5 ∧ CallsE Try.prog 34 #[.pointer x1] w2 (fun v6 w7 => ∃ (A8 : Option Addr) (m9 : Nat) (c10 : Nat), v6 = .slice A8 m9 c10 ∧ CallsE Try.prog 24 #[.slice A3 m4 c5, .slice A8 m9 c10] w7 (fun v11 w12 => ∃ (b13 : Bool), v11 = .bool b13 ∧ condP b13 (CallsE Try.prog 14 #[.pointer x0] w12 (fun v14 w15 => ∃ (A16 : Option Addr) (m17 : Nat) (c18 : Nat), v14 = .slice A16 m17 c18 ∧ CallsE Try.prog 26 #[.pointer x1] w15 (fun v19 w20 => ∃ (A21 : Option Addr) (m22 : Nat) (c23 : Nat), v19 = .slice A21 m22 c23 ∧ CallsE Try.prog 35 #[.slice A16 m17 c18, .slice A21 m22 c23] w20 (fun v24 w25 => ∃ (b26 : Bool), v24 = .bool b26 ∧ condP b26 (CallsE Try.prog 16 #[.pointer x0] w25 (fun v27 w28 => ∃ (b29 : Bool), v27 = .bool b29 ∧ CallsE Try.prog 36 #[.pointer x1] w28 (fun v30 w31 => ∃ (b32 : Bool), v30 = .bool b32 ∧ law12_same.p1 K (b29 == b32) w31))) (law12_same.p1 K false w25))))) (law12_same.p1 K false w12))))
abbrev law12_same.F (q0 : Option Addr) (q1 : Option Addr) (K : Value → World → Prop) (w : World) : Prop :=
  law12_same.p0 K q0 q1 w
theorem law12_same.ok {q0 : Option Addr} {q1 : Option Addr} {K : Value → World → Prop} {w : World} (h : law12_same.F q0 q1 K w) :
    CallsE Try.prog 23 #[.pointer q0, .pointer q1] w K := by
  refine calls_of_J (n := 24) (rs := [.tmp 4]) Try.func23 rfl rfl rfl rfl ?_
  refine J_seq (fun σ w => vP (σ 0) fun x0 => vP (σ 1) fun x1 => law12_same.p0 K x0 x1 w) ?_ ?_
  ·
    exact sh_sound _ _ _ _ (Eq.mp (by kernel_rfl) h)
  · intro σ w h
    obtain ⟨x0, e0, h⟩ := vP_elim h
    obtain ⟨x1, e1, h⟩ := vP_elim h
    refine J.sub ?_ (((Sub.base _).upd e0).upd e1)
    clear e0 e1
    refine J_seq (fun σ w => vB (σ 4) fun x4 => law12_same.p1 K x4 w) ?_ ?_
    ·
      exact sh_sound _ _ _ _ (Eq.mp (by kernel_rfl) h)
    · intro σ w h
      obtain ⟨x4, e4, h⟩ := vB_elim h
      refine J.sub ?_ ((Sub.base _).upd e4)
      clear e4
      exact sh_sound _ _ _ _ (Eq.mp (by kernel_rfl) h)

/-! ### hayloft/hayloftref12.Same: function 24 -/
abbrev ref12_Same.p3 (K : Value → World → Prop) (w : World) : Prop :=
  K (.bool true) w
abbrev ref12_Same.b0 (L0 : Option Addr → Nat → Nat → Option Addr → Nat → Nat → Int → Int → World → Prop) (K : Value → World → Prop) (x0A : Option Addr) (x0n : Nat) (x0c : Nat) (x1A : Option Addr) (x1n : Nat) (x1c : Nat) (x12 : Int) (x13 : Int) (w : World) : Prop :=
  condP (decide (x13 < x12)) ((0 ≤ x13 ∧ x13 < ((x0n : Nat) : Int)) ∧ ∃ (a1 : Addr), x0A = some a1 ∧ ∃ (n2 : Int), w.cell? (a1.add (x13.toNat * 4)) = some (.int .i64 n2) ∧ ∃ (b3 : Bool), w.cell? ((a1.add (x13.toNat * 4)).add 1) = some (.bool b3) ∧ ∃ (n4 : Int), w.cell? ((a1.add (x13.toNat * 4)).add 2) = some (.int .i64 n4) ∧ ∃ (n5 : Int), w.cell? ((a1.add (x13.toNat * 4)).add 3) = some (.int .i64 n5) ∧ (0 ≤ x13 ∧ x13 < ((x1n : Nat) : Int)) ∧ ∃ (a6 : Addr), x1A = some a6 ∧ ∃ (n7 : Int), w.cell? (a6.add (x13.toNat * 4)) = some (.int .i64 n7) ∧ ∃ (b8 : Bool), w.cell? ((a6.add (x13.toNat * 4)).add 1) = some (.bool b8) ∧ ∃ (n9 : Int), w.cell? ((a6.add (x13.toNat * 4)).add 2) = some (.int .i64 n9) ∧ ∃ (n10 : Int), w.cell? ((a6.add (x13.toNat * 4)).add 3) = some (.int .i64 n10) ∧ ∃ (b11 : Bool), aggEq Try.prog .neq 33 (.agg #[.int .i64 n2, .bool b3, .int .i64 n4, .int .i64 n5]) (.agg #[.int .i64 n7, .bool b8, .int .i64 n9, .int .i64 n10]) (.bool b11) ∧ condP b11 (K (.bool false) w) (L0 x0A x0n x0c x1A x1n x1c x12 (IntKind.wrap .i64 (x13 + (1 : Int))) w)) (ref12_Same.p3 K w)
def ref12_Same.l0 (K : Value → World → Prop) (k : Nat) : Option Addr → Nat → Nat → Option Addr → Nat → Nat → Int → Int → World → Prop :=
  Nat.rec (motive := fun _ => Option Addr → Nat → Nat → Option Addr → Nat → Nat → Int → Int → World → Prop) (fun _ _ _ _ _ _ _ _ _ => False) (fun _ ih => ref12_Same.b0 ih K) k
theorem ref12_Same.l0_succ (K : Value → World → Prop) (k : Nat) (x0A : Option Addr) (x0n : Nat) (x0c : Nat) (x1A : Option Addr) (x1n : Nat) (x1c : Nat) (x12 : Int) (x13 : Int) (w : World) : ref12_Same.l0 K (k + 1) x0A x0n x0c x1A x1n x1c x12 x13 w = ref12_Same.b0 (ref12_Same.l0 K k) K x0A x0n x0c x1A x1n x1c x12 x13 w := rfl
abbrev ref12_Same.p2 (K : Value → World → Prop) (x0A : Option Addr) (x0n : Nat) (x0c : Nat) (x1A : Option Addr) (x1n : Nat) (x1c : Nat) (x12 : Int) (x13 : Int) (w : World) : Prop :=
  ∃ k, ref12_Same.l0 K k x0A x0n x0c x1A x1n x1c x12 x13 w
abbrev ref12_Same.p1 (K : Value → World → Prop) (x0A : Option Addr) (x0n : Nat) (x0c : Nat) (x1A : Option Addr) (x1n : Nat) (x1c : Nat) (w : World) : Prop :=
  ref12_Same.p2 K x0A x0n x0c x1A x1n x1c ((x0n : Nat) : Int) 0 w
abbrev ref12_Same.p0 (K : Value → World → Prop) (x0A : Option Addr) (x0n : Nat) (x0c : Nat) (x1A : Option Addr) (x1n : Nat) (x1c : Nat) (w : World) : Prop :=
  condP (((x0n : Nat) : Int) != ((x1n : Nat) : Int)) (K (.bool false) w) (ref12_Same.p1 K x0A x0n x0c x1A x1n x1c w)
abbrev ref12_Same.F (q0A : Option Addr) (q0n : Nat) (q0c : Nat) (q1A : Option Addr) (q1n : Nat) (q1c : Nat) (K : Value → World → Prop) (w : World) : Prop :=
  ref12_Same.p0 K q0A q0n q0c q1A q1n q1c w
theorem ref12_Same.ok {q0A : Option Addr} {q0n : Nat} {q0c : Nat} {q1A : Option Addr} {q1n : Nat} {q1c : Nat} {K : Value → World → Prop} {w : World} (h : ref12_Same.F q0A q0n q0c q1A q1n q1c K w) :
    CallsE Try.prog 24 #[.slice q0A q0n q0c, .slice q1A q1n q1c] w K := by
  refine calls_of_J (n := 26) (rs := [.tmp 4]) Try.func24 rfl rfl rfl rfl ?_
  refine J_seq (fun σ w => vS (σ 0) fun x0A x0n x0c => vS (σ 1) fun x1A x1n x1c => ref12_Same.p0 K x0A x0n x0c x1A x1n x1c w) ?_ ?_
  ·
    exact sh_sound _ _ _ _ (Eq.mp (by kernel_rfl) h)
  · intro σ w h
    obtain ⟨x0A, x0n, x0c, e0, h⟩ := vS_elim h
    obtain ⟨x1A, x1n, x1c, e1, h⟩ := vS_elim h
    refine J.sub ?_ (((Sub.base _).upd e0).upd e1)
    clear e0 e1
    refine J_seq (fun σ w => vS (σ 0) fun x0A x0n x0c => vS (σ 1) fun x1A x1n x1c => ref12_Same.p1 K x0A x0n x0c x1A x1n x1c w) ?_ ?_
    ·
      exact sh_sound _ _ _ _ (Eq.mp (by kernel_rfl) h)
    · intro σ w h
      obtain ⟨x0A, x0n, x0c, e0, h⟩ := vS_elim h
      obtain ⟨x1A, x1n, x1c, e1, h⟩ := vS_elim h
      refine J.sub ?_ (((Sub.base _).upd e0).upd e1)
      clear e0 e1
      refine J_seq (fun σ w => ref12_Same.p3 K w) ?_ ?_
      ·
        refine J_seq (fun σ w => vS (σ 0) fun x0A x0n x0c => vS (σ 1) fun x1A x1n x1c => vI .i64 (σ 12) fun x12 => vI .i64 (σ 13) fun x13 => ref12_Same.p2 K x0A x0n x0c x1A x1n x1c x12 x13 w) ?_ ?_
        ·
          exact sh_sound _ _ _ _ (Eq.mp (by kernel_rfl) h)
        · intro σ w h
          obtain ⟨x0A, x0n, x0c, e0, h⟩ := vS_elim h
          obtain ⟨x1A, x1n, x1c, e1, h⟩ := vS_elim h
          obtain ⟨x12, e12, h⟩ := vI_elim h
          obtain ⟨x13, e13, h⟩ := vI_elim h
          refine J.sub ?_ (((((Sub.base _).upd e0).upd e1).upd e12).upd e13)
          clear e0 e1 e12 e13
          refine J_block ?_
          refine J_loop (fun k σ w => vS (σ 0) fun x0A x0n x0c => vS (σ 1) fun x1A x1n x1c => vI .i64 (σ 12) fun x12 => vI .i64 (σ 13) fun x13 => ref12_Same.l0 K k x0A x0n x0c x1A x1n x1c x12 x13 w) (Eq.mp (by kernel_rfl) h) ?_ ?_
          · intro σ w h
            obtain ⟨x0A, x0n, x0c, e0, h⟩ := vS_elim h
            obtain ⟨x1A, x1n, x1c, e1, h⟩ := vS_elim h
            obtain ⟨x12, e12, h⟩ := vI_elim h
            obtain ⟨x13, e13, h⟩ := vI_elim h
            exact h
          · intro k0 σ w h
            obtain ⟨x0A, x0n, x0c, e0, h⟩ := vS_elim h
            obtain ⟨x1A, x1n, x1c, e1, h⟩ := vS_elim h
            obtain ⟨x12, e12, h⟩ := vI_elim h
            obtain ⟨x13, e13, h⟩ := vI_elim h
            refine J.sub ?_ (((((Sub.base _).upd e0).upd e1).upd e12).upd e13)
            clear e0 e1 e12 e13
            exact sh_sound _ _ _ _ (Eq.mp (by kernel_rfl) h)
      · intro σ w h
        refine J.sub ?_ (Sub.base _)
        exact sh_sound _ _ _ _ (Eq.mp (by kernel_rfl) h)

/-! ### (*hayloft/handle.Table).Rows: function 25 -/
abbrev handle_Table_Rows.F (q0 : Option Addr) (K : Value → World → Prop) (w : World) : Prop :=
  condP q0.isNone (K (.slice none 0 0) w) (wlet (w.alloc (.cells #[] 33)) fun w1 => ∃ (a2 : Addr), q0 = some a2 ∧ ∃ (A3 : Option Addr) (m4 : Nat) (c5 : Nat), w1.cell? (a2.add 1) = some (.slice A3 m4 c5) ∧ SemJ Try.prog (Builtin.append_ #[30, 30] 30 #[.slice (some ⟨w.heap.size, 0, none⟩) 0 0, .slice A3 m4 c5]) (fun v6 w7 => ∃ (A8 : Option Addr) (m9 : Nat) (c10 : Nat), v6 = .slice A8 m9 c10 ∧ K (.slice A8 m9 c10) w7) w1)
theorem handle_Table_Rows.ok {q0 : Option Addr} {K : Value → World → Prop} {w : World} (h : handle_Table_Rows.F q0 K w) :
    CallsE Try.prog 25 #[.pointer q0] w K := by
  refine calls_of_J (n := 11) (rs := [.tmp 2]) Try.func25 rfl rfl rfl rfl ?_
  exact sh_sound _ _ _ _ (Eq.mp (by kernel_rfl) h)

end Go.Proofs.Ytcpgflcbjcekeaa.F
