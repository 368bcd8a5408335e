/-
  Printed by a program: for each Go function a proposition that says what it comes to, and the proof that the code comes to it. No condition beyond what each theorem states.
-/
import Derived.Test.YtemcmkhkbbjehaaProg
import Derived.Test.YtemcmkhkbbjehaaSh
set_option linter.unusedVariables false
set_option maxRecDepth 100000
namespace Go.Proofs.Ytemcmkhkbbjehaa.F
open Go Go.RowKit Go.Proofs.Ytemcmkhkbbjehaa Go.Proofs.Ytemcmkhkbbjehaa.Sh

noncomputable abbrev Pg : Program := Try.prog
abbrev law06_ClassOf.N : FuncId := 3
abbrev law06_ClassTells.N : FuncId := 4
abbrev law06_ClassNeeds.N : FuncId := 5
abbrev law06_ClassFits.N : FuncId := 6
abbrev law06_ClassRises.N : FuncId := 7
abbrev law06_ClassMore.N : FuncId := 8
abbrev law06_ClassApart.N : FuncId := 9
abbrev law06_alive.N : FuncId := 10
abbrev class_Of.N : FuncId := 11
abbrev ref06_Of.N : FuncId := 12
abbrev class_Size.N : FuncId := 13
abbrev ref06_Size.N : FuncId := 14
abbrev class_Slots.N : FuncId := 15
abbrev ref06_Slots.N : FuncId := 16
abbrev class_Pages.N : FuncId := 17
abbrev ref06_Pages.N : FuncId := 18
abbrev class_Need.N : FuncId := 19
abbrev ref06_Need.N : FuncId := 20
abbrev Ty.int64 : TypeId := 2
abbrev Ty.int : TypeId := 3
abbrev Ty.bool : TypeId := 4
abbrev Ty.uint8 : TypeId := 5
abbrev Ty.abi_BoundsErrorCode : TypeId := 6
abbrev Ty.runtime_boundsError : TypeId := 8
abbrev Ty.string : TypeId := 9
abbrev Ty.runtime_errorString : TypeId := 10
abbrev Ty.runtime_plainError : TypeId := 11
abbrev Ty.uintptr : TypeId := 12
abbrev Ty.runtime_errorAddressString : TypeId := 14
abbrev Ty.p_runtime_TypeAssertionError : TypeId := 15
abbrev Ty.p_runtime_PanicNilError : TypeId := 16
abbrev Ty.p_abi_Type : TypeId := 17
abbrev Ty.maps_unhashableTypeError : TypeId := 19
abbrev Ty.int32 : TypeId := 21
abbrev Ty.sl_int : TypeId := 26
abbrev Ty.a7_int : TypeId := 31
abbrev Ty.runtime_TypeAssertionError : TypeId := 34
abbrev Ty.a0_p_runtime_PanicNilError : TypeId := 35
abbrev Ty.runtime_PanicNilError : TypeId := 37
abbrev Ty.uint32 : TypeId := 39
abbrev Ty.abi_TFlag : TypeId := 40
abbrev Ty.abi_Kind : TypeId := 41
abbrev Ty.p_uint8 : TypeId := 43
abbrev Ty.abi_NameOff : TypeId := 44
abbrev Ty.abi_TypeOff : TypeId := 45
abbrev Ty.abi_Type : TypeId := 47
abbrev Ty.unsafe_Pointer : TypeId := 48

/-! ### hayloft/hayloftlaw06.ClassOf: function 3 -/
abbrev law06_ClassOf.p1 (K : Value → World → Prop) (x2 : Bool) (w : World) : Prop :=
  K (.bool x2) w
abbrev law06_ClassOf.p0 (K : Value → World → Prop) (x0 : Int) (w : World) : Prop :=
  CallsE Try.prog 10 #[] w (fun v1 w2 => ∃ (b3 : Bool), v1 = .bool b3 ∧ condP b3 (CallsE Try.prog 11 #[.int .i64 x0] w2 (fun v4 w5 => ∃ (n6 : Int), v4 = .int .i64 n6 ∧ CallsE Try.prog 12 #[.int .i64 x0] w5 (fun v7 w8 => ∃ (n9 : Int), v7 = .int .i64 n9 ∧ law06_ClassOf.p1 K (n6 == n9) w8))) (law06_ClassOf.p1 K false w2))
abbrev law06_ClassOf.F (q0 : Int) (K : Value → World → Prop) (w : World) : Prop :=
  law06_ClassOf.p0 K q0 w
theorem law06_ClassOf.ok {q0 : Int} {K : Value → World → Prop} {w : World} (h : law06_ClassOf.F q0 K w) :
    CallsE Try.prog 3 #[.int .i64 q0] w K := by
  refine calls_of_J (n := 11) (rs := [.tmp 2]) Try.func3 rfl rfl rfl rfl ?_
  refine J_seq (fun σ w => vI .i64 (σ 0) fun x0 => law06_ClassOf.p0 K x0 w) ?_ ?_
  ·
    exact sh_sound _ _ _ _ (Eq.mp (by kernel_rfl) h)
  · intro σ w h
    obtain ⟨x0, e0, h⟩ := vI_elim h
    refine J.sub ?_ ((Sub.base _).upd e0)
    clear e0
    refine J_seq (fun σ w => vB (σ 2) fun x2 => law06_ClassOf.p1 K x2 w) ?_ ?_
    ·
      exact sh_sound _ _ _ _ (Eq.mp (by kernel_rfl) h)
    · intro σ w h
      obtain ⟨x2, e2, h⟩ := vB_elim h
      refine J.sub ?_ ((Sub.base _).upd e2)
      clear e2
      exact sh_sound _ _ _ _ (Eq.mp (by kernel_rfl) h)

/-! ### hayloft/hayloftlaw06.ClassTells: function 4 -/
abbrev law06_ClassTells.p1 (K : Value → World → Prop) (x4 : Bool) (w : World) : Prop :=
  K (.bool x4) w
abbrev law06_ClassTells.p0 (K : Value → World → Prop) (x0 : Int) (x1 : Int) (w : World) : Prop :=
  CallsE Try.prog 10 #[] w (fun v1 w2 => ∃ (b3 : Bool), v1 = .bool b3 ∧ condP b3 (CallsE Try.prog 13 #[.int .i64 x0] w2 (fun v4 w5 => ∃ (n6 : Int), v4 = .int .i64 n6 ∧ CallsE Try.prog 14 #[.int .i64 x0] w5 (fun v7 w8 => ∃ (n9 : Int), v7 = .int .i64 n9 ∧ condP (n6 == n9) (CallsE Try.prog 15 #[.int .i64 x0] w8 (fun v10 w11 => ∃ (n12 : Int), v10 = .int .i64 n12 ∧ CallsE Try.prog 16 #[.int .i64 x0] w11 (fun v13 w14 => ∃ (n15 : Int), v13 = .int .i64 n15 ∧ condP (n12 == n15) (CallsE Try.prog 17 #[.int .i64 x1] w14 (fun v16 w17 => ∃ (n18 : Int), v16 = .int .i64 n18 ∧ CallsE Try.prog 18 #[.int .i64 x1] w17 (fun v19 w20 => ∃ (n21 : Int), v19 = .int .i64 n21 ∧ law06_ClassTells.p1 K (n18 == n21) w20))) (law06_ClassTells.p1 K false w14)))) (law06_ClassTells.p1 K false w8)))) (law06_ClassTells.p1 K false w2))
abbrev law06_ClassTells.F (q0 : Int) (q1 : Int) (K : Value → World → Prop) (w : World) : Prop :=
  law06_ClassTells.p0 K q0 q1 w
theorem law06_ClassTells.ok {q0 : Int} {q1 : Int} {K : Value → World → Prop} {w : World} (h : law06_ClassTells.F q0 q1 K w) :
    CallsE Try.prog 4 #[.int .i64 q0, .int .i64 q1] w K := by
  refine calls_of_J (n := 27) (rs := [.tmp 4]) Try.func4 rfl rfl rfl rfl ?_
  refine J_seq (fun σ w => vI .i64 (σ 0) fun x0 => vI .i64 (σ 1) fun x1 => law06_ClassTells.p0 K x0 x1 w) ?_ ?_
  ·
    exact sh_sound _ _ _ _ (Eq.mp (by kernel_rfl) h)
  · intro σ w h
    obtain ⟨x0, e0, h⟩ := vI_elim h
    obtain ⟨x1, e1, h⟩ := vI_elim h
    refine J.sub ?_ (((Sub.base _).upd e0).upd e1)
    clear e0 e1
    refine J_seq (fun σ w => vB (σ 4) fun x4 => law06_ClassTells.p1 K x4 w) ?_ ?_
    ·
      exact sh_sound _ _ _ _ (Eq.mp (by kernel_rfl) h)
    · intro σ w h
      obtain ⟨x4, e4, h⟩ := vB_elim h
      refine J.sub ?_ ((Sub.base _).upd e4)
      clear e4
      exact sh_sound _ _ _ _ (Eq.mp (by kernel_rfl) h)

/-! ### hayloft/hayloftlaw06.ClassNeeds: function 5 -/
abbrev law06_ClassNeeds.p6 (K : Value → World → Prop) (w : World) : Prop :=
  K (.bool true) w
abbrev law06_ClassNeeds.b0 (L0 : Option Addr → Nat → Nat → Option Addr → Nat → Nat → Int → Int → World → Prop) (K : Value → World → Prop) (x0A : Option Addr) (x0n : Nat) (x0c : Nat) (x3A : Option Addr) (x3n : Nat) (x3c : Nat) (x19 : Int) (x20 : Int) (w : World) : Prop :=
  condP (decide (x20 < x19)) ((0 ≤ x20 ∧ x20 < ((x3n : Nat) : Int)) ∧ ∃ (a16 : Addr), x3A = some a16 ∧ ∃ (n17 : Int), w.cell? (a16.add x20.toNat) = some (.int .i64 n17) ∧ (0 ≤ x20 ∧ x20 < ((x0n : Nat) : Int)) ∧ ∃ (a18 : Addr), x0A = some a18 ∧ ∃ (n19 : Int), w.cell? (a18.add x20.toNat) = some (.int .i64 n19) ∧ condP (n17 != n19) (K (.bool false) w) (L0 x0A x0n x0c x3A x3n x3c x19 (IntKind.wrap .i64 (x20 + (1 : Int))) w)) (law06_ClassNeeds.p6 K w)
def law06_ClassNeeds.l0 (K : Value → World → Prop) (k : Nat) : Option Addr → Nat → Nat → Option Addr → Nat → Nat → Int → Int → World → Prop :=
  Nat.rec (motive := fun _ => Option Addr → Nat → Nat → Option Addr → Nat → Nat → Int → Int → World → Prop) (fun _ _ _ _ _ _ _ _ _ => False) (fun _ ih => law06_ClassNeeds.b0 ih K) k
theorem law06_ClassNeeds.l0_succ (K : Value → World → Prop) (k : Nat) (x0A : Option Addr) (x0n : Nat) (x0c : Nat) (x3A : Option Addr) (x3n : Nat) (x3c : Nat) (x19 : Int) (x20 : Int) (w : World) : law06_ClassNeeds.l0 K (k + 1) x0A x0n x0c x3A x3n x3c x19 x20 w = law06_ClassNeeds.b0 (law06_ClassNeeds.l0 K k) K x0A x0n x0c x3A x3n x3c x19 x20 w := rfl
abbrev law06_ClassNeeds.p5 (K : Value → World → Prop) (x0A : Option Addr) (x0n : Nat) (x0c : Nat) (x3A : Option Addr) (x3n : Nat) (x3c : Nat) (x19 : Int) (x20 : Int) (w : World) : Prop :=
  ∃ k, law06_ClassNeeds.l0 K k x0A x0n x0c x3A x3n x3c x19 x20 w
abbrev law06_ClassNeeds.p4 (K : Value → World → Prop) (x0A : Option Addr) (x0n : Nat) (x0c : Nat) (x3A : Option Addr) (x3n : Nat) (x3c : Nat) (w : World) : Prop :=
  law06_ClassNeeds.p5 K x0A x0n x0c x3A x3n x3c ((x3n : Nat) : Int) 0 w
abbrev law06_ClassNeeds.p3 (K : Value → World → Prop) (x0A : Option Addr) (x0n : Nat) (x0c : Nat) (x3A : Option Addr) (x3n : Nat) (x3c : Nat) (w : World) : Prop :=
  CallsE Try.prog 19 #[.slice x3A x3n x3c] w (fun v10 w11 => ∃ (n12 : Int), v10 = .int .i64 n12 ∧ CallsE Try.prog 20 #[.slice x0A x0n x0c] w11 (fun v13 w14 => ∃ (n15 : Int), v13 = .int .i64 n15 ∧ condP (n12 != n15) (K (.bool false) w14) (law06_ClassNeeds.p4 K x0A x0n x0c x3A x3n x3c w14)))
abbrev law06_ClassNeeds.p2 (K : Value → World → Prop) (x0A : Option Addr) (x0n : Nat) (x0c : Nat) (w : World) : Prop :=
  wlet (w.alloc (.cells #[] 3)) fun w4 => SemJ Try.prog (Builtin.append_ #[26, 26] 26 #[.slice (some ⟨w.heap.size, 0, none⟩) 0 0, .slice x0A x0n x0c]) (fun v5 w6 => ∃ (A7 : Option Addr) (m8 : Nat) (c9 : Nat), v5 = .slice A7 m8 c9 ∧ law06_ClassNeeds.p3 K x0A x0n x0c A7 m8 c9 w6) w4
abbrev law06_ClassNeeds.p1 (K : Value → World → Prop) (x0A : Option Addr) (x0n : Nat) (x0c : Nat) (w : World) : Prop :=
  condP (decide ((5000 : Int) < ((x0n : Nat) : Int))) (K (.bool true) w) (law06_ClassNeeds.p2 K x0A x0n x0c w)
abbrev law06_ClassNeeds.p0 (K : Value → World → Prop) (x0A : Option Addr) (x0n : Nat) (x0c : Nat) (w : World) : Prop :=
  CallsE Try.prog 10 #[] w (fun v1 w2 => ∃ (b3 : Bool), v1 = .bool b3 ∧ condP (!b3) (K (.bool false) w2) (law06_ClassNeeds.p1 K x0A x0n x0c w2))
abbrev law06_ClassNeeds.F (q0A : Option Addr) (q0n : Nat) (q0c : Nat) (K : Value → World → Prop) (w : World) : Prop :=
  law06_ClassNeeds.p0 K q0A q0n q0c w
theorem law06_ClassNeeds.ok {q0A : Option Addr} {q0n : Nat} {q0c : Nat} {K : Value → World → Prop} {w : World} (h : law06_ClassNeeds.F q0A q0n q0c K w) :
    CallsE Try.prog 5 #[.slice q0A q0n q0c] w K := by
  refine calls_of_J (n := 33) (rs := [.tmp 2]) Try.func5 rfl rfl rfl rfl ?_
  refine J_seq (fun σ w => vS (σ 0) fun x0A x0n x0c => law06_ClassNeeds.p0 K x0A x0n x0c w) ?_ ?_
  ·
    exact sh_sound _ _ _ _ (Eq.mp (by kernel_rfl) h)
  · intro σ w h
    obtain ⟨x0A, x0n, x0c, e0, h⟩ := vS_elim h
    refine J.sub ?_ ((Sub.base _).upd e0)
    clear e0
    refine J_seq (fun σ w => vS (σ 0) fun x0A x0n x0c => law06_ClassNeeds.p1 K x0A x0n x0c w) ?_ ?_
    ·
      exact sh_sound _ _ _ _ (Eq.mp (by kernel_rfl) h)
    · intro σ w h
      obtain ⟨x0A, x0n, x0c, e0, h⟩ := vS_elim h
      refine J.sub ?_ ((Sub.base _).upd e0)
      clear e0
      refine J_seq (fun σ w => vS (σ 0) fun x0A x0n x0c => law06_ClassNeeds.p2 K x0A x0n x0c w) ?_ ?_
      ·
        exact sh_sound _ _ _ _ (Eq.mp (by kernel_rfl) h)
      · intro σ w h
        obtain ⟨x0A, x0n, x0c, e0, h⟩ := vS_elim h
        refine J.sub ?_ ((Sub.base _).upd e0)
        clear e0
        refine J_seq (fun σ w => vS (σ 0) fun x0A x0n x0c => vS (σ 3) fun x3A x3n x3c => law06_ClassNeeds.p3 K x0A x0n x0c x3A x3n x3c w) ?_ ?_
        ·
          exact sh_sound _ _ _ _ (Eq.mp (by kernel_rfl) h)
        · intro σ w h
          obtain ⟨x0A, x0n, x0c, e0, h⟩ := vS_elim h
          obtain ⟨x3A, x3n, x3c, e3, h⟩ := vS_elim h
          refine J.sub ?_ (((Sub.base _).upd e0).upd e3)
          clear e0 e3
          refine J_seq (fun σ w => vS (σ 0) fun x0A x0n x0c => vS (σ 3) fun x3A x3n x3c => law06_ClassNeeds.p4 K x0A x0n x0c x3A x3n x3c w) ?_ ?_
          ·
            exact sh_sound _ _ _ _ (Eq.mp (by kernel_rfl) h)
          · intro σ w h
            obtain ⟨x0A, x0n, x0c, e0, h⟩ := vS_elim h
            obtain ⟨x3A, x3n, x3c, e3, h⟩ := vS_elim h
            refine J.sub ?_ (((Sub.base _).upd e0).upd e3)
            clear e0 e3
            refine J_seq (fun σ w => law06_ClassNeeds.p6 K w) ?_ ?_
            ·
              refine J_seq (fun σ w => vS (σ 0) fun x0A x0n x0c => vS (σ 3) fun x3A x3n x3c => vI .i64 (σ 19) fun x19 => vI .i64 (σ 20) fun x20 => law06_ClassNeeds.p5 K x0A x0n x0c x3A x3n x3c x19 x20 w) ?_ ?_
              ·
                exact sh_sound _ _ _ _ (Eq.mp (by kernel_rfl) h)
              · intro σ w h
                obtain ⟨x0A, x0n, x0c, e0, h⟩ := vS_elim h
                obtain ⟨x3A, x3n, x3c, e3, h⟩ := vS_elim h
                obtain ⟨x19, e19, h⟩ := vI_elim h
                obtain ⟨x20, e20, h⟩ := vI_elim h
                refine J.sub ?_ (((((Sub.base _).upd e0).upd e3).upd e19).upd e20)
                clear e0 e3 e19 e20
                refine J_block ?_
                refine J_loop (fun k σ w => vS (σ 0) fun x0A x0n x0c => vS (σ 3) fun x3A x3n x3c => vI .i64 (σ 19) fun x19 => vI .i64 (σ 20) fun x20 => law06_ClassNeeds.l0 K k x0A x0n x0c x3A x3n x3c x19 x20 w) (Eq.mp (by kernel_rfl) h) ?_ ?_
                · intro σ w h
                  obtain ⟨x0A, x0n, x0c, e0, h⟩ := vS_elim h
                  obtain ⟨x3A, x3n, x3c, e3, h⟩ := vS_elim h
                  obtain ⟨x19, e19, h⟩ := vI_elim h
                  obtain ⟨x20, e20, h⟩ := vI_elim h
                  exact h
                · intro k0 σ w h
                  obtain ⟨x0A, x0n, x0c, e0, h⟩ := vS_elim h
                  obtain ⟨x3A, x3n, x3c, e3, h⟩ := vS_elim h
                  obtain ⟨x19, e19, h⟩ := vI_elim h
                  obtain ⟨x20, e20, h⟩ := vI_elim h
                  refine J.sub ?_ (((((Sub.base _).upd e0).upd e3).upd e19).upd e20)
                  clear e0 e3 e19 e20
                  exact sh_sound _ _ _ _ (Eq.mp (by kernel_rfl) h)
            · intro σ w h
              refine J.sub ?_ (Sub.base _)
              exact sh_sound _ _ _ _ (Eq.mp (by kernel_rfl) h)

/-! ### hayloft/hayloftlaw06.ClassFits: function 6 -/
abbrev law06_ClassFits.p4 (K : Value → World → Prop) (x2 : Bool) (w : World) : Prop :=
  K (.bool x2) w
abbrev law06_ClassFits.p7 (K : Value → World → Prop) (x2 : Bool) (w : World) : Prop :=
  K (.bool x2) w
abbrev law06_ClassFits.p9 (K : Value → World → Prop) (x2 : Bool) (w : World) : Prop :=
  K (.bool x2) w
abbrev law06_ClassFits.p8 (K : Value → World → Prop) (x0 : Int) (x3 : Int) (w : World) : Prop :=
  condP (decide ((0 : Int) ≤ x3)) (condP (decide (x3 < (7 : Int))) (CallsE Try.prog 13 #[.int .i64 x3] w (fun v19 w20 => ∃ (n21 : Int), v19 = .int .i64 n21 ∧ condP (decide (x0 ≤ n21)) (condP (x3 == (0 : Int)) (condP (decide (x0 < (17 : Int))) (CallsE Try.prog 15 #[.int .i64 x3] w20 (fun v22 w23 => ∃ (n24 : Int), v22 = .int .i64 n24 ∧ CallsE Try.prog 13 #[.int .i64 x3] w23 (fun v25 w26 => ∃ (n27 : Int), v25 = .int .i64 n27 ∧ law06_ClassFits.p9 K (decide ((IntKind.wrap .i64 (n24 * n27)) ≤ (256 : Int))) w26))) (CallsE Try.prog 13 #[.int .i64 x3] w20 (fun v28 w29 => ∃ (n30 : Int), v28 = .int .i64 n30 ∧ (2 : Int) ≠ 0 ∧ condP (decide (n30 ≤ (IntKind.wrap .i64 (x0 + (IntKind.wrap .i64 (Int.tdiv x0 2)))))) (CallsE Try.prog 15 #[.int .i64 x3] w29 (fun v31 w32 => ∃ (n33 : Int), v31 = .int .i64 n33 ∧ CallsE Try.prog 13 #[.int .i64 x3] w32 (fun v34 w35 => ∃ (n36 : Int), v34 = .int .i64 n36 ∧ law06_ClassFits.p9 K (decide ((IntKind.wrap .i64 (n33 * n36)) ≤ (256 : Int))) w35))) (law06_ClassFits.p9 K false w29)))) (CallsE Try.prog 13 #[.int .i64 (IntKind.wrap .i64 (x3 - (1 : Int)))] w20 (fun v37 w38 => ∃ (n39 : Int), v37 = .int .i64 n39 ∧ condP (decide (n39 < x0)) (condP (decide (x0 < (17 : Int))) (CallsE Try.prog 15 #[.int .i64 x3] w38 (fun v40 w41 => ∃ (n42 : Int), v40 = .int .i64 n42 ∧ CallsE Try.prog 13 #[.int .i64 x3] w41 (fun v43 w44 => ∃ (n45 : Int), v43 = .int .i64 n45 ∧ law06_ClassFits.p9 K (decide ((IntKind.wrap .i64 (n42 * n45)) ≤ (256 : Int))) w44))) (CallsE Try.prog 13 #[.int .i64 x3] w38 (fun v46 w47 => ∃ (n48 : Int), v46 = .int .i64 n48 ∧ (2 : Int) ≠ 0 ∧ condP (decide (n48 ≤ (IntKind.wrap .i64 (x0 + (IntKind.wrap .i64 (Int.tdiv x0 2)))))) (CallsE Try.prog 15 #[.int .i64 x3] w47 (fun v49 w50 => ∃ (n51 : Int), v49 = .int .i64 n51 ∧ CallsE Try.prog 13 #[.int .i64 x3] w50 (fun v52 w53 => ∃ (n54 : Int), v52 = .int .i64 n54 ∧ law06_ClassFits.p9 K (decide ((IntKind.wrap .i64 (n51 * n54)) ≤ (256 : Int))) w53))) (law06_ClassFits.p9 K false w47)))) (law06_ClassFits.p9 K false w38)))) (law06_ClassFits.p9 K false w20))) (law06_ClassFits.p9 K false w)) (law06_ClassFits.p9 K false w)
abbrev law06_ClassFits.p6 (K : Value → World → Prop) (x0 : Int) (x3 : Int) (x22 : Bool) (w : World) : Prop :=
  condP x22 (CallsE Try.prog 13 #[.int .i64 6] w (fun v10 w11 => ∃ (n12 : Int), v10 = .int .i64 n12 ∧ condP (decide (n12 < x0)) (CallsE Try.prog 17 #[.int .i64 x0] w11 (fun v13 w14 => ∃ (n15 : Int), v13 = .int .i64 n15 ∧ condP (decide (x0 ≤ (IntKind.wrap .i64 (n15 * (256 : Int))))) (CallsE Try.prog 17 #[.int .i64 x0] w14 (fun v16 w17 => ∃ (n18 : Int), v16 = .int .i64 n18 ∧ law06_ClassFits.p7 K (decide ((IntKind.wrap .i64 ((IntKind.wrap .i64 (n18 - (1 : Int))) * (256 : Int))) < x0)) w17)) (law06_ClassFits.p7 K false w14))) (law06_ClassFits.p7 K false w11))) (law06_ClassFits.p8 K x0 x3 w)
abbrev law06_ClassFits.p5 (K : Value → World → Prop) (x0 : Int) (x3 : Int) (w : World) : Prop :=
  law06_ClassFits.p6 K x0 x3 (x3 == (7 : Int)) w
abbrev law06_ClassFits.p3 (K : Value → World → Prop) (x0 : Int) (x3 : Int) (x13 : Bool) (w : World) : Prop :=
  condP x13 (condP (x3 == (-1)) (CallsE Try.prog 17 #[.int .i64 x0] w (fun v7 w8 => ∃ (n9 : Int), v7 = .int .i64 n9 ∧ law06_ClassFits.p4 K (n9 == (0 : Int)) w8)) (law06_ClassFits.p4 K false w)) (law06_ClassFits.p5 K x0 x3 w)
abbrev law06_ClassFits.p2 (K : Value → World → Prop) (x0 : Int) (x3 : Int) (w : World) : Prop :=
  condP (decide (x0 < (1 : Int))) (law06_ClassFits.p3 K x0 x3 true w) (law06_ClassFits.p3 K x0 x3 (decide ((4096 : Int) < x0)) w)
abbrev law06_ClassFits.p1 (K : Value → World → Prop) (x0 : Int) (w : World) : Prop :=
  CallsE Try.prog 11 #[.int .i64 x0] w (fun v4 w5 => ∃ (n6 : Int), v4 = .int .i64 n6 ∧ law06_ClassFits.p2 K x0 n6 w5)
abbrev law06_ClassFits.p0 (K : Value → World → Prop) (x0 : Int) (w : World) : Prop :=
  CallsE Try.prog 10 #[] w (fun v1 w2 => ∃ (b3 : Bool), v1 = .bool b3 ∧ condP (!b3) (K (.bool false) w2) (law06_ClassFits.p1 K x0 w2))
abbrev law06_ClassFits.F (q0 : Int) (K : Value → World → Prop) (w : World) : Prop :=
  law06_ClassFits.p0 K q0 w
theorem law06_ClassFits.ok {q0 : Int} {K : Value → World → Prop} {w : World} (h : law06_ClassFits.F q0 K w) :
    CallsE Try.prog 6 #[.int .i64 q0] w K := by
  refine calls_of_J (n := 85) (rs := [.tmp 2]) Try.func6 rfl rfl rfl rfl ?_
  refine J_seq (fun σ w => vI .i64 (σ 0) fun x0 => law06_ClassFits.p0 K x0 w) ?_ ?_
  ·
    exact sh_sound _ _ _ _ (Eq.mp (by kernel_rfl) h)
  · intro σ w h
    obtain ⟨x0, e0, h⟩ := vI_elim h
    refine J.sub ?_ ((Sub.base _).upd e0)
    clear e0
    refine J_seq (fun σ w => vI .i64 (σ 0) fun x0 => law06_ClassFits.p1 K x0 w) ?_ ?_
    ·
      exact sh_sound _ _ _ _ (Eq.mp (by kernel_rfl) h)
    · intro σ w h
      obtain ⟨x0, e0, h⟩ := vI_elim h
      refine J.sub ?_ ((Sub.base _).upd e0)
      clear e0
      refine J_seq (fun σ w => vI .i64 (σ 0) fun x0 => vI .i64 (σ 3) fun x3 => law06_ClassFits.p2 K x0 x3 w) ?_ ?_
      ·
        exact sh_sound _ _ _ _ (Eq.mp (by kernel_rfl) h)
      · intro σ w h
        obtain ⟨x0, e0, h⟩ := vI_elim h
        obtain ⟨x3, e3, h⟩ := vI_elim h
        refine J.sub ?_ (((Sub.base _).upd e0).upd e3)
        clear e0 e3
        refine J_seq (fun σ w => vI .i64 (σ 0) fun x0 => vI .i64 (σ 3) fun x3 => law06_ClassFits.p5 K x0 x3 w) ?_ ?_
        ·
          refine J_seq (fun σ w => vI .i64 (σ 0) fun x0 => vI .i64 (σ 3) fun x3 => vB (σ 13) fun x13 => law06_ClassFits.p3 K x0 x3 x13 w) ?_ ?_
          ·
            exact sh_sound _ _ _ _ (Eq.mp (by kernel_rfl) h)
          · intro σ w h
            obtain ⟨x0, e0, h⟩ := vI_elim h
            obtain ⟨x3, e3, h⟩ := vI_elim h
            obtain ⟨x13, e13, h⟩ := vB_elim h
            refine J.sub ?_ ((((Sub.base _).upd e0).upd e3).upd e13)
            clear e0 e3 e13
            refine J_cond' h (by kernel_rfl) (fun h => ?_) (fun h => ?_)
            ·
              refine J_seq (fun σ w => vB (σ 2) fun x2 => law06_ClassFits.p4 K x2 w) ?_ ?_
              ·
                exact sh_sound _ _ _ _ (Eq.mp (by kernel_rfl) h)
              · intro σ w h
                obtain ⟨x2, e2, h⟩ := vB_elim h
                refine J.sub ?_ ((Sub.base _).upd e2)
                clear e2
                exact sh_sound _ _ _ _ (Eq.mp (by kernel_rfl) h)
            ·
              exact sh_sound _ _ _ _ (Eq.mp (by kernel_rfl) h)
        · intro σ w h
          obtain ⟨x0, e0, h⟩ := vI_elim h
          obtain ⟨x3, e3, h⟩ := vI_elim h
          refine J.sub ?_ (((Sub.base _).upd e0).upd e3)
          clear e0 e3
          refine J_seq (fun σ w => vI .i64 (σ 0) fun x0 => vI .i64 (σ 3) fun x3 => law06_ClassFits.p8 K x0 x3 w) ?_ ?_
          ·
            refine J_seq (fun σ w => vI .i64 (σ 0) fun x0 => vI .i64 (σ 3) fun x3 => vB (σ 22) fun x22 => law06_ClassFits.p6 K x0 x3 x22 w) ?_ ?_
            ·
              exact sh_sound _ _ _ _ (Eq.mp (by kernel_rfl) h)
            · intro σ w h
              obtain ⟨x0, e0, h⟩ := vI_elim h
              obtain ⟨x3, e3, h⟩ := vI_elim h
              obtain ⟨x22, e22, h⟩ := vB_elim h
              refine J.sub ?_ ((((Sub.base _).upd e0).upd e3).upd e22)
              clear e0 e3 e22
              refine J_cond' h (by kernel_rfl) (fun h => ?_) (fun h => ?_)
              ·
                refine J_seq (fun σ w => vB (σ 2) fun x2 => law06_ClassFits.p7 K x2 w) ?_ ?_
                ·
                  exact sh_sound _ _ _ _ (Eq.mp (by kernel_rfl) h)
                · intro σ w h
                  obtain ⟨x2, e2, h⟩ := vB_elim h
                  refine J.sub ?_ ((Sub.base _).upd e2)
                  clear e2
                  exact sh_sound _ _ _ _ (Eq.mp (by kernel_rfl) h)
              ·
                exact sh_sound _ _ _ _ (Eq.mp (by kernel_rfl) h)
          · intro σ w h
            obtain ⟨x0, e0, h⟩ := vI_elim h
            obtain ⟨x3, e3, h⟩ := vI_elim h
            refine J.sub ?_ (((Sub.base _).upd e0).upd e3)
            clear e0 e3
            refine J_seq (fun σ w => vB (σ 2) fun x2 => law06_ClassFits.p9 K x2 w) ?_ ?_
            ·
              exact sh_sound _ _ _ _ (Eq.mp (by kernel_rfl) h)
            · intro σ w h
              obtain ⟨x2, e2, h⟩ := vB_elim h
              refine J.sub ?_ ((Sub.base _).upd e2)
              clear e2
              exact sh_sound _ _ _ _ (Eq.mp (by kernel_rfl) h)

/-! ### hayloft/hayloftlaw06.ClassRises: function 7 -/
abbrev law06_ClassRises.p5 (K : Value → World → Prop) (x4 : Bool) (w : World) : Prop :=
  K (.bool x4) w
abbrev law06_ClassRises.p4 (K : Value → World → Prop) (x5 : Int) (x6 : Int) (w : World) : Prop :=
  CallsE Try.prog 11 #[.int .i64 x5] w (fun v4 w5 => ∃ (n6 : Int), v4 = .int .i64 n6 ∧ CallsE Try.prog 11 #[.int .i64 x6] w5 (fun v7 w8 => ∃ (n9 : Int), v7 = .int .i64 n9 ∧ condP (decide (n6 ≤ n9)) (CallsE Try.prog 17 #[.int .i64 x5] w8 (fun v10 w11 => ∃ (n12 : Int), v10 = .int .i64 n12 ∧ CallsE Try.prog 17 #[.int .i64 x6] w11 (fun v13 w14 => ∃ (n15 : Int), v13 = .int .i64 n15 ∧ law06_ClassRises.p5 K (decide (n12 ≤ n15)) w14))) (law06_ClassRises.p5 K false w8)))
abbrev law06_ClassRises.p3 (K : Value → World → Prop) (x5 : Int) (x6 : Int) (x20 : Bool) (w : World) : Prop :=
  condP x20 (K (.bool true) w) (law06_ClassRises.p4 K x5 x6 w)
abbrev law06_ClassRises.p2 (K : Value → World → Prop) (x5 : Int) (x6 : Int) (w : World) : Prop :=
  condP (decide (x5 < (1 : Int))) (law06_ClassRises.p3 K x5 x6 true w) (law06_ClassRises.p3 K x5 x6 (decide ((4096 : Int) < x6)) w)
abbrev law06_ClassRises.p1 (K : Value → World → Prop) (x0 : Int) (x1 : Int) (w : World) : Prop :=
  law06_ClassRises.p2 K (imin x0 x1) (imax x0 x1) w
abbrev law06_ClassRises.p0 (K : Value → World → Prop) (x0 : Int) (x1 : Int) (w : World) : Prop :=
  CallsE Try.prog 10 #[] w (fun v1 w2 => ∃ (b3 : Bool), v1 = .bool b3 ∧ condP (!b3) (K (.bool false) w2) (law06_ClassRises.p1 K x0 x1 w2))
abbrev law06_ClassRises.F (q0 : Int) (q1 : Int) (K : Value → World → Prop) (w : World) : Prop :=
  law06_ClassRises.p0 K q0 q1 w
theorem law06_ClassRises.ok {q0 : Int} {q1 : Int} {K : Value → World → Prop} {w : World} (h : law06_ClassRises.F q0 q1 K w) :
    CallsE Try.prog 7 #[.int .i64 q0, .int .i64 q1] w K := by
  refine calls_of_J (n := 33) (rs := [.tmp 4]) Try.func7 rfl rfl rfl rfl ?_
  refine J_seq (fun σ w => vI .i64 (σ 0) fun x0 => vI .i64 (σ 1) fun x1 => law06_ClassRises.p0 K x0 x1 w) ?_ ?_
  ·
    exact sh_sound _ _ _ _ (Eq.mp (by kernel_rfl) h)
  · intro σ w h
    obtain ⟨x0, e0, h⟩ := vI_elim h
    obtain ⟨x1, e1, h⟩ := vI_elim h
    refine J.sub ?_ (((Sub.base _).upd e0).upd e1)
    clear e0 e1
    refine J_seq (fun σ w => vI .i64 (σ 0) fun x0 => vI .i64 (σ 1) fun x1 => law06_ClassRises.p1 K x0 x1 w) ?_ ?_
    ·
      exact sh_sound _ _ _ _ (Eq.mp (by kernel_rfl) h)
    · intro σ w h
      obtain ⟨x0, e0, h⟩ := vI_elim h
      obtain ⟨x1, e1, h⟩ := vI_elim h
      refine J.sub ?_ (((Sub.base _).upd e0).upd e1)
      clear e0 e1
      refine J_seq (fun σ w => vI .i64 (σ 5) fun x5 => vI .i64 (σ 6) fun x6 => law06_ClassRises.p2 K x5 x6 w) ?_ ?_
      ·
        exact sh_sound _ _ _ _ (Eq.mp (by kernel_rfl) h)
      · intro σ w h
        obtain ⟨x5, e5, h⟩ := vI_elim h
        obtain ⟨x6, e6, h⟩ := vI_elim h
        refine J.sub ?_ (((Sub.base _).upd e5).upd e6)
        clear e5 e6
        refine J_seq (fun σ w => vI .i64 (σ 5) fun x5 => vI .i64 (σ 6) fun x6 => law06_ClassRises.p4 K x5 x6 w) ?_ ?_
        ·
          refine J_seq (fun σ w => vI .i64 (σ 5) fun x5 => vI .i64 (σ 6) fun x6 => vB (σ 20) fun x20 => law06_ClassRises.p3 K x5 x6 x20 w) ?_ ?_
          ·
            exact sh_sound _ _ _ _ (Eq.mp (by kernel_rfl) h)
          · intro σ w h
            obtain ⟨x5, e5, h⟩ := vI_elim h
            obtain ⟨x6, e6, h⟩ := vI_elim h
            obtain ⟨x20, e20, h⟩ := vB_elim h
            refine J.sub ?_ ((((Sub.base _).upd e5).upd e6).upd e20)
            clear e5 e6 e20
            exact sh_sound _ _ _ _ (Eq.mp (by kernel_rfl) h)
        · intro σ w h
          obtain ⟨x5, e5, h⟩ := vI_elim h
          obtain ⟨x6, e6, h⟩ := vI_elim h
          refine J.sub ?_ (((Sub.base _).upd e5).upd e6)
          clear e5 e6
          refine J_seq (fun σ w => vB (σ 4) fun x4 => law06_ClassRises.p5 K x4 w) ?_ ?_
          ·
            exact sh_sound _ _ _ _ (Eq.mp (by kernel_rfl) h)
          · intro σ w h
            obtain ⟨x4, e4, h⟩ := vB_elim h
            refine J.sub ?_ ((Sub.base _).upd e4)
            clear e4
            exact sh_sound _ _ _ _ (Eq.mp (by kernel_rfl) h)

/-! ### hayloft/hayloftlaw06.ClassMore: function 8 -/
abbrev law06_ClassMore.p6 (K : Value → World → Prop) (x4 : Bool) (w : World) : Prop :=
  K (.bool x4) w
abbrev law06_ClassMore.p5 (K : Value → World → Prop) (x1 : Int) (x5 : Int) (x6 : Int) (x7 : Int) (w : World) : Prop :=
  condP (x6 == x7) (condP (decide (x5 ≤ x6)) (CallsE Try.prog 17 #[.int .i64 x1] w (fun v31 w32 => ∃ (n33 : Int), v31 = .int .i64 n33 ∧ law06_ClassMore.p6 K (decide (x6 ≤ (IntKind.wrap .i64 (x5 + n33)))) w32)) (law06_ClassMore.p6 K false w)) (law06_ClassMore.p6 K false w)
abbrev law06_ClassMore.p4 (K : Value → World → Prop) (x0A : Option Addr) (x0n : Nat) (x0c : Nat) (x1 : Int) (x5 : Int) (x6 : Int) (w : World) : Prop :=
  wlet (w.alloc (.cells #[.int .i64 x1] 3)) fun w22 => SemJ Try.prog (Builtin.append_ #[26, 26] 26 #[.slice (some ⟨w.heap.size, 0, none⟩) 1 1, .slice x0A x0n x0c]) (fun v23 w24 => ∃ (A25 : Option Addr) (m26 : Nat) (c27 : Nat), v23 = .slice A25 m26 c27 ∧ CallsE Try.prog 19 #[.slice A25 m26 c27] w24 (fun v28 w29 => ∃ (n30 : Int), v28 = .int .i64 n30 ∧ law06_ClassMore.p5 K x1 x5 x6 n30 w29)) w22
abbrev law06_ClassMore.p3 (K : Value → World → Prop) (x0A : Option Addr) (x0n : Nat) (x0c : Nat) (x1 : Int) (x5 : Int) (w : World) : Prop :=
  wlet (w.alloc (.cells #[] 3)) fun w7 => SemJ Try.prog (Builtin.append_ #[26, 26] 26 #[.slice (some ⟨w.heap.size, 0, none⟩) 0 0, .slice x0A x0n x0c]) (fun v8 w9 => ∃ (A10 : Option Addr) (m11 : Nat) (c12 : Nat), v8 = .slice A10 m11 c12 ∧ wlet (w9.alloc (.cells #[.int .i64 x1] 3)) fun w13 => SemJ Try.prog (Builtin.append_ #[26, 26] 26 #[.slice A10 m11 c12, .slice (some ⟨w9.heap.size, 0, none⟩) 1 1]) (fun v14 w15 => ∃ (A16 : Option Addr) (m17 : Nat) (c18 : Nat), v14 = .slice A16 m17 c18 ∧ CallsE Try.prog 19 #[.slice A16 m17 c18] w15 (fun v19 w20 => ∃ (n21 : Int), v19 = .int .i64 n21 ∧ law06_ClassMore.p4 K x0A x0n x0c x1 x5 n21 w20)) w13) w7
abbrev law06_ClassMore.p2 (K : Value → World → Prop) (x0A : Option Addr) (x0n : Nat) (x0c : Nat) (x1 : Int) (w : World) : Prop :=
  CallsE Try.prog 19 #[.slice x0A x0n x0c] w (fun v4 w5 => ∃ (n6 : Int), v4 = .int .i64 n6 ∧ law06_ClassMore.p3 K x0A x0n x0c x1 n6 w5)
abbrev law06_ClassMore.p1 (K : Value → World → Prop) (x0A : Option Addr) (x0n : Nat) (x0c : Nat) (x1 : Int) (w : World) : Prop :=
  condP (decide ((2000 : Int) < ((x0n : Nat) : Int))) (K (.bool true) w) (law06_ClassMore.p2 K x0A x0n x0c x1 w)
abbrev law06_ClassMore.p0 (K : Value → World → Prop) (x0A : Option Addr) (x0n : Nat) (x0c : Nat) (x1 : Int) (w : World) : Prop :=
  CallsE Try.prog 10 #[] w (fun v1 w2 => ∃ (b3 : Bool), v1 = .bool b3 ∧ condP (!b3) (K (.bool false) w2) (law06_ClassMore.p1 K x0A x0n x0c x1 w2))
abbrev law06_ClassMore.F (q0A : Option Addr) (q0n : Nat) (q0c : Nat) (q1 : Int) (K : Value → World → Prop) (w : World) : Prop :=
  law06_ClassMore.p0 K q0A q0n q0c q1 w
theorem law06_ClassMore.ok {q0A : Option Addr} {q0n : Nat} {q0c : Nat} {q1 : Int} {K : Value → World → Prop} {w : World} (h : law06_ClassMore.F q0A q0n q0c q1 K w) :
    CallsE Try.prog 8 #[.slice q0A q0n q0c, .int .i64 q1] w K := by
  refine calls_of_J (n := 43) (rs := [.tmp 4]) Try.func8 rfl rfl rfl rfl ?_
  refine J_seq (fun σ w => vS (σ 0) fun x0A x0n x0c => vI .i64 (σ 1) fun x1 => law06_ClassMore.p0 K x0A x0n x0c x1 w) ?_ ?_
  ·
    exact sh_sound _ _ _ _ (Eq.mp (by kernel_rfl) h)
  · intro σ w h
    obtain ⟨x0A, x0n, x0c, e0, h⟩ := vS_elim h
    obtain ⟨x1, e1, h⟩ := vI_elim h
    refine J.sub ?_ (((Sub.base _).upd e0).upd e1)
    clear e0 e1
    refine J_seq (fun σ w => vS (σ 0) fun x0A x0n x0c => vI .i64 (σ 1) fun x1 => law06_ClassMore.p1 K x0A x0n x0c x1 w) ?_ ?_
    ·
      exact sh_sound _ _ _ _ (Eq.mp (by kernel_rfl) h)
    · intro σ w h
      obtain ⟨x0A, x0n, x0c, e0, h⟩ := vS_elim h
      obtain ⟨x1, e1, h⟩ := vI_elim h
      refine J.sub ?_ (((Sub.base _).upd e0).upd e1)
      clear e0 e1
      refine J_seq (fun σ w => vS (σ 0) fun x0A x0n x0c => vI .i64 (σ 1) fun x1 => law06_ClassMore.p2 K x0A x0n x0c x1 w) ?_ ?_
      ·
        exact sh_sound _ _ _ _ (Eq.mp (by kernel_rfl) h)
      · intro σ w h
        obtain ⟨x0A, x0n, x0c, e0, h⟩ := vS_elim h
        obtain ⟨x1, e1, h⟩ := vI_elim h
        refine J.sub ?_ (((Sub.base _).upd e0).upd e1)
        clear e0 e1
        refine J_seq (fun σ w => vS (σ 0) fun x0A x0n x0c => vI .i64 (σ 1) fun x1 => vI .i64 (σ 5) fun x5 => law06_ClassMore.p3 K x0A x0n x0c x1 x5 w) ?_ ?_
        ·
          exact sh_sound _ _ _ _ (Eq.mp (by kernel_rfl) h)
        · intro σ w h
          obtain ⟨x0A, x0n, x0c, e0, h⟩ := vS_elim h
          obtain ⟨x1, e1, h⟩ := vI_elim h
          obtain ⟨x5, e5, h⟩ := vI_elim h
          refine J.sub ?_ ((((Sub.base _).upd e0).upd e1).upd e5)
          clear e0 e1 e5
          refine J_seq (fun σ w => vS (σ 0) fun x0A x0n x0c => vI .i64 (σ 1) fun x1 => vI .i64 (σ 5) fun x5 => vI .i64 (σ 6) fun x6 => law06_ClassMore.p4 K x0A x0n x0c x1 x5 x6 w) ?_ ?_
          ·
            exact sh_sound _ _ _ _ (Eq.mp (by kernel_rfl) h)
          · intro σ w h
            obtain ⟨x0A, x0n, x0c, e0, h⟩ := vS_elim h
            obtain ⟨x1, e1, h⟩ := vI_elim h
            obtain ⟨x5, e5, h⟩ := vI_elim h
            obtain ⟨x6, e6, h⟩ := vI_elim h
            refine J.sub ?_ (((((Sub.base _).upd e0).upd e1).upd e5).upd e6)
            clear e0 e1 e5 e6
            refine J_seq (fun σ w => vI .i64 (σ 1) fun x1 => vI .i64 (σ 5) fun x5 => vI .i64 (σ 6) fun x6 => vI .i64 (σ 7) fun x7 => law06_ClassMore.p5 K x1 x5 x6 x7 w) ?_ ?_
            ·
              exact sh_sound _ _ _ _ (Eq.mp (by kernel_rfl) h)
            · intro σ w h
              obtain ⟨x1, e1, h⟩ := vI_elim h
              obtain ⟨x5, e5, h⟩ := vI_elim h
              obtain ⟨x6, e6, h⟩ := vI_elim h
              obtain ⟨x7, e7, h⟩ := vI_elim h
              refine J.sub ?_ (((((Sub.base _).upd e1).upd e5).upd e6).upd e7)
              clear e1 e5 e6 e7
              refine J_seq (fun σ w => vB (σ 4) fun x4 => law06_ClassMore.p6 K x4 w) ?_ ?_
              ·
                exact sh_sound _ _ _ _ (Eq.mp (by kernel_rfl) h)
              · intro σ w h
                obtain ⟨x4, e4, h⟩ := vB_elim h
                refine J.sub ?_ ((Sub.base _).upd e4)
                clear e4
                exact sh_sound _ _ _ _ (Eq.mp (by kernel_rfl) h)

/-! ### hayloft/hayloftlaw06.ClassApart: function 9 -/
abbrev law06_ClassApart.p5 (K : Value → World → Prop) (x4 : Bool) (w : World) : Prop :=
  K (.bool x4) w
abbrev law06_ClassApart.p4 (K : Value → World → Prop) (x0A : Option Addr) (x0n : Nat) (x0c : Nat) (x1A : Option Addr) (x1n : Nat) (x1c : Nat) (x5 : Int) (w : World) : Prop :=
  CallsE Try.prog 19 #[.slice x0A x0n x0c] w (fun v18 w19 => ∃ (n20 : Int), v18 = .int .i64 n20 ∧ CallsE Try.prog 19 #[.slice x1A x1n x1c] w19 (fun v21 w22 => ∃ (n23 : Int), v21 = .int .i64 n23 ∧ condP (decide (x5 ≤ (IntKind.wrap .i64 (n20 + n23)))) (CallsE Try.prog 19 #[.slice x0A x0n x0c] w22 (fun v24 w25 => ∃ (n26 : Int), v24 = .int .i64 n26 ∧ condP (decide (n26 ≤ x5)) (CallsE Try.prog 19 #[.slice x1A x1n x1c] w25 (fun v27 w28 => ∃ (n29 : Int), v27 = .int .i64 n29 ∧ law06_ClassApart.p5 K (decide (n29 ≤ x5)) w28)) (law06_ClassApart.p5 K false w25))) (law06_ClassApart.p5 K false w22)))
abbrev law06_ClassApart.p3 (K : Value → World → Prop) (x0A : Option Addr) (x0n : Nat) (x0c : Nat) (x1A : Option Addr) (x1n : Nat) (x1c : Nat) (w : World) : Prop :=
  wlet (w.alloc (.cells #[] 3)) fun w4 => SemJ Try.prog (Builtin.append_ #[26, 26] 26 #[.slice (some ⟨w.heap.size, 0, none⟩) 0 0, .slice x0A x0n x0c]) (fun v5 w6 => ∃ (A7 : Option Addr) (m8 : Nat) (c9 : Nat), v5 = .slice A7 m8 c9 ∧ SemJ Try.prog (Builtin.append_ #[26, 26] 26 #[.slice A7 m8 c9, .slice x1A x1n x1c]) (fun v10 w11 => ∃ (A12 : Option Addr) (m13 : Nat) (c14 : Nat), v10 = .slice A12 m13 c14 ∧ CallsE Try.prog 19 #[.slice A12 m13 c14] w11 (fun v15 w16 => ∃ (n17 : Int), v15 = .int .i64 n17 ∧ law06_ClassApart.p4 K x0A x0n x0c x1A x1n x1c n17 w16)) w6) w4
abbrev law06_ClassApart.p2 (K : Value → World → Prop) (x0A : Option Addr) (x0n : Nat) (x0c : Nat) (x1A : Option Addr) (x1n : Nat) (x1c : Nat) (x15 : Bool) (w : World) : Prop :=
  condP x15 (K (.bool true) w) (law06_ClassApart.p3 K x0A x0n x0c x1A x1n x1c w)
abbrev law06_ClassApart.p1 (K : Value → World → Prop) (x0A : Option Addr) (x0n : Nat) (x0c : Nat) (x1A : Option Addr) (x1n : Nat) (x1c : Nat) (w : World) : Prop :=
  condP (decide ((2000 : Int) < ((x0n : Nat) : Int))) (law06_ClassApart.p2 K x0A x0n x0c x1A x1n x1c true w) (law06_ClassApart.p2 K x0A x0n x0c x1A x1n x1c (decide ((2000 : Int) < ((x1n : Nat) : Int))) w)
abbrev law06_ClassApart.p0 (K : Value → World → Prop) (x0A : Option Addr) (x0n : Nat) (x0c : Nat) (x1A : Option Addr) (x1n : Nat) (x1c : Nat) (w : World) : Prop :=
  CallsE Try.prog 10 #[] w (fun v1 w2 => ∃ (b3 : Bool), v1 = .bool b3 ∧ condP (!b3) (K (.bool false) w2) (law06_ClassApart.p1 K x0A x0n x0c x1A x1n x1c w2))
abbrev law06_ClassApart.F (q0A : Option Addr) (q0n : Nat) (q0c : Nat) (q1A : Option Addr) (q1n : Nat) (q1c : Nat) (K : Value → World → Prop) (w : World) : Prop :=
  law06_ClassApart.p0 K q0A q0n q0c q1A q1n q1c w
theorem law06_ClassApart.ok {q0A : Option Addr} {q0n : Nat} {q0c : Nat} {q1A : Option Addr} {q1n : Nat} {q1c : Nat} {K : Value → World → Prop} {w : World} (h : law06_ClassApart.F q0A q0n q0c q1A q1n q1c K w) :
    CallsE Try.prog 9 #[.slice q0A q0n q0c, .slice q1A q1n q1c] w K := by
  refine calls_of_J (n := 41) (rs := [.tmp 4]) Try.func9 rfl rfl rfl rfl ?_
  refine J_seq (fun σ w => vS (σ 0) fun x0A x0n x0c => vS (σ 1) fun x1A x1n x1c => law06_ClassApart.p0 K x0A x0n x0c x1A x1n x1c w) ?_ ?_
  ·
    exact sh_sound _ _ _ _ (Eq.mp (by kernel_rfl) h)
  · intro σ w h
    obtain ⟨x0A, x0n, x0c, e0, h⟩ := vS_elim h
    obtain ⟨x1A, x1n, x1c, e1, h⟩ := vS_elim h
    refine J.sub ?_ (((Sub.base _).upd e0).upd e1)
    clear e0 e1
    refine J_seq (fun σ w => vS (σ 0) fun x0A x0n x0c => vS (σ 1) fun x1A x1n x1c => law06_ClassApart.p1 K x0A x0n x0c x1A x1n x1c w) ?_ ?_
    ·
      exact sh_sound _ _ _ _ (Eq.mp (by kernel_rfl) h)
    · intro σ w h
      obtain ⟨x0A, x0n, x0c, e0, h⟩ := vS_elim h
      obtain ⟨x1A, x1n, x1c, e1, h⟩ := vS_elim h
      refine J.sub ?_ (((Sub.base _).upd e0).upd e1)
      clear e0 e1
      refine J_seq (fun σ w => vS (σ 0) fun x0A x0n x0c => vS (σ 1) fun x1A x1n x1c => law06_ClassApart.p3 K x0A x0n x0c x1A x1n x1c w) ?_ ?_
      ·
        refine J_seq (fun σ w => vS (σ 0) fun x0A x0n x0c => vS (σ 1) fun x1A x1n x1c => vB (σ 15) fun x15 => law06_ClassApart.p2 K x0A x0n x0c x1A x1n x1c x15 w) ?_ ?_
        ·
          exact sh_sound _ _ _ _ (Eq.mp (by kernel_rfl) h)
        · intro σ w h
          obtain ⟨x0A, x0n, x0c, e0, h⟩ := vS_elim h
          obtain ⟨x1A, x1n, x1c, e1, h⟩ := vS_elim h
          obtain ⟨x15, e15, h⟩ := vB_elim h
          refine J.sub ?_ ((((Sub.base _).upd e0).upd e1).upd e15)
          clear e0 e1 e15
          exact sh_sound _ _ _ _ (Eq.mp (by kernel_rfl) h)
      · intro σ w h
        obtain ⟨x0A, x0n, x0c, e0, h⟩ := vS_elim h
        obtain ⟨x1A, x1n, x1c, e1, h⟩ := vS_elim h
        refine J.sub ?_ (((Sub.base _).upd e0).upd e1)
        clear e0 e1
        refine J_seq (fun σ w => vS (σ 0) fun x0A x0n x0c => vS (σ 1) fun x1A x1n x1c => vI .i64 (σ 5) fun x5 => law06_ClassApart.p4 K x0A x0n x0c x1A x1n x1c x5 w) ?_ ?_
        ·
          exact sh_sound _ _ _ _ (Eq.mp (by kernel_rfl) h)
        · intro σ w h
          obtain ⟨x0A, x0n, x0c, e0, h⟩ := vS_elim h
          obtain ⟨x1A, x1n, x1c, e1, h⟩ := vS_elim h
          obtain ⟨x5, e5, h⟩ := vI_elim h
          refine J.sub ?_ ((((Sub.base _).upd e0).upd e1).upd e5)
          clear e0 e1 e5
          refine J_seq (fun σ w => vB (σ 4) fun x4 => law06_ClassApart.p5 K x4 w) ?_ ?_
          ·
            exact sh_sound _ _ _ _ (Eq.mp (by kernel_rfl) h)
          · intro σ w h
            obtain ⟨x4, e4, h⟩ := vB_elim h
            refine J.sub ?_ ((Sub.base _).upd e4)
            clear e4
            exact sh_sound _ _ _ _ (Eq.mp (by kernel_rfl) h)

/-! ### hayloft/hayloftlaw06.alive: function 10 -/
abbrev law06_alive.p1 (K : Value → World → Prop) (x0 : Bool) (w : World) : Prop :=
  K (.bool x0) w
abbrev law06_alive.p0 (K : Value → World → Prop) (w : World) : Prop :=
  CallsE Try.prog 11 #[.int .i64 17] w (fun v1 w2 => ∃ (n3 : Int), v1 = .int .i64 n3 ∧ condP (n3 == (1 : Int)) (CallsE Try.prog 11 #[.int .i64 129] w2 (fun v4 w5 => ∃ (n6 : Int), v4 = .int .i64 n6 ∧ condP (n6 == (7 : Int)) (CallsE Try.prog 15 #[.int .i64 3] w5 (fun v7 w8 => ∃ (n9 : Int), v7 = .int .i64 n9 ∧ condP (n9 == (5 : Int)) (CallsE Try.prog 17 #[.int .i64 257] w8 (fun v10 w11 => ∃ (n12 : Int), v10 = .int .i64 n12 ∧ condP (n12 == (2 : Int)) (wlet (w11.alloc (.cells #[.int .i64 24, .int .i64 300] 3)) fun w13 => CallsE Try.prog 19 #[.slice (some ⟨w11.heap.size, 0, none⟩) 2 2] w13 (fun v14 w15 => ∃ (n16 : Int), v14 = .int .i64 n16 ∧ law06_alive.p1 K (n16 == (3 : Int)) w15)) (law06_alive.p1 K false w11))) (law06_alive.p1 K false w8))) (law06_alive.p1 K false w5))) (law06_alive.p1 K false w2))
abbrev law06_alive.F (K : Value → World → Prop) (w : World) : Prop :=
  law06_alive.p0 K w
theorem law06_alive.ok {K : Value → World → Prop} {w : World} (h : law06_alive.F K w) :
    CallsE Try.prog 10 #[] w K := by
  refine calls_of_J (n := 20) (rs := [.tmp 0]) Try.func10 rfl rfl rfl rfl ?_
  refine J_seq (fun σ w => law06_alive.p0 K w) ?_ ?_
  ·
    exact sh_sound _ _ _ _ (Eq.mp (by kernel_rfl) h)
  · intro σ w h
    refine J.sub ?_ (Sub.base _)
    refine J_seq (fun σ w => vB (σ 0) fun x0 => law06_alive.p1 K x0 w) ?_ ?_
    ·
      exact sh_sound _ _ _ _ (Eq.mp (by kernel_rfl) h)
    · intro σ w h
      obtain ⟨x0, e0, h⟩ := vB_elim h
      refine J.sub ?_ ((Sub.base _).upd e0)
      clear e0
      exact sh_sound _ _ _ _ (Eq.mp (by kernel_rfl) h)

/-! ### hayloft/class.Of: function 11 -/
abbrev class_Of.p10 (K : Value → World → Prop) (x3 : Int) (w : World) : Prop :=
  K (.int .i64 x3) w
abbrev class_Of.p9 (K : Value → World → Prop) (x3 : Int) (w : World) : Prop :=
  class_Of.p10 K (IntKind.wrap .i64 (x3 - (1 : Int))) w
abbrev class_Of.p8 (K : Value → World → Prop) (x3 : Int) (w : World) : Prop :=
  class_Of.p9 K (IntKind.wrap .i64 (x3 - (1 : Int))) w
abbrev class_Of.p7 (K : Value → World → Prop) (x3 : Int) (w : World) : Prop :=
  class_Of.p8 K (IntKind.wrap .i64 (x3 - (1 : Int))) w
abbrev class_Of.p6 (K : Value → World → Prop) (x3 : Int) (w : World) : Prop :=
  class_Of.p7 K (IntKind.wrap .i64 (x3 - (1 : Int))) w
abbrev class_Of.p5 (K : Value → World → Prop) (x3 : Int) (w : World) : Prop :=
  class_Of.p6 K (IntKind.wrap .i64 (x3 - (1 : Int))) w
abbrev class_Of.p4 (K : Value → World → Prop) (x3 : Int) (w : World) : Prop :=
  class_Of.p5 K (IntKind.wrap .i64 (x3 - (1 : Int))) w
abbrev class_Of.p3 (K : Value → World → Prop) (x0 : Int) (x3 : Int) (w : World) : Prop :=
  condP (decide (x0 ≤ (16 : Int))) (class_Of.p4 K (IntKind.wrap .i64 (x3 - (1 : Int))) w) (condP (decide (x0 ≤ (24 : Int))) (class_Of.p4 K x3 w) (condP (decide (x0 ≤ (32 : Int))) (class_Of.p5 K x3 w) (condP (decide (x0 ≤ (48 : Int))) (class_Of.p6 K x3 w) (condP (decide (x0 ≤ (64 : Int))) (class_Of.p7 K x3 w) (condP (decide (x0 ≤ (96 : Int))) (class_Of.p8 K x3 w) (condP (decide (x0 ≤ (128 : Int))) (class_Of.p9 K x3 w) (class_Of.p10 K x3 w)))))))
abbrev class_Of.p2 (K : Value → World → Prop) (x0 : Int) (w : World) : Prop :=
  class_Of.p3 K x0 7 w
abbrev class_Of.p1 (K : Value → World → Prop) (x0 : Int) (x9 : Bool) (w : World) : Prop :=
  condP x9 (K (.int .i64 (-1)) w) (class_Of.p2 K x0 w)
abbrev class_Of.p0 (K : Value → World → Prop) (x0 : Int) (w : World) : Prop :=
  condP (decide (x0 < (1 : Int))) (class_Of.p1 K x0 true w) (class_Of.p1 K x0 (decide ((4096 : Int) < x0)) w)
abbrev class_Of.F (q0 : Int) (K : Value → World → Prop) (w : World) : Prop :=
  class_Of.p0 K q0 w
theorem class_Of.ok {q0 : Int} {K : Value → World → Prop} {w : World} (h : class_Of.F q0 K w) :
    CallsE Try.prog 11 #[.int .i64 q0] w K := by
  refine calls_of_J (n := 46) (rs := [.tmp 2]) Try.func11 rfl rfl rfl rfl ?_
  refine J_seq (fun σ w => vI .i64 (σ 0) fun x0 => class_Of.p0 K x0 w) ?_ ?_
  ·
    exact sh_sound _ _ _ _ (Eq.mp (by kernel_rfl) h)
  · intro σ w h
    obtain ⟨x0, e0, h⟩ := vI_elim h
    refine J.sub ?_ ((Sub.base _).upd e0)
    clear e0
    refine J_seq (fun σ w => vI .i64 (σ 0) fun x0 => class_Of.p2 K x0 w) ?_ ?_
    ·
      refine J_seq (fun σ w => vI .i64 (σ 0) fun x0 => vB (σ 9) fun x9 => class_Of.p1 K x0 x9 w) ?_ ?_
      ·
        exact sh_sound _ _ _ _ (Eq.mp (by kernel_rfl) h)
      · intro σ w h
        obtain ⟨x0, e0, h⟩ := vI_elim h
        obtain ⟨x9, e9, h⟩ := vB_elim h
        refine J.sub ?_ (((Sub.base _).upd e0).upd e9)
        clear e0 e9
        exact sh_sound _ _ _ _ (Eq.mp (by kernel_rfl) h)
    · intro σ w h
      obtain ⟨x0, e0, h⟩ := vI_elim h
      refine J.sub ?_ ((Sub.base _).upd e0)
      clear e0
      refine J_seq (fun σ w => vI .i64 (σ 0) fun x0 => vI .i64 (σ 3) fun x3 => class_Of.p3 K x0 x3 w) ?_ ?_
      ·
        exact sh_sound _ _ _ _ (Eq.mp (by kernel_rfl) h)
      · intro σ w h
        obtain ⟨x0, e0, h⟩ := vI_elim h
        obtain ⟨x3, e3, h⟩ := vI_elim h
        refine J.sub ?_ (((Sub.base _).upd e0).upd e3)
        clear e0 e3
        refine J_seq (fun σ w => vI .i64 (σ 3) fun x3 => class_Of.p10 K x3 w) ?_ ?_
        ·
          refine J_block ?_
          refine J_seq (fun σ w => vI .i64 (σ 3) fun x3 => class_Of.p9 K x3 w) ?_ ?_
          ·
            refine J_block ?_
            refine J_seq (fun σ w => vI .i64 (σ 3) fun x3 => class_Of.p8 K x3 w) ?_ ?_
            ·
              refine J_block ?_
              refine J_seq (fun σ w => vI .i64 (σ 3) fun x3 => class_Of.p7 K x3 w) ?_ ?_
              ·
                refine J_block ?_
                refine J_seq (fun σ w => vI .i64 (σ 3) fun x3 => class_Of.p6 K x3 w) ?_ ?_
                ·
                  refine J_block ?_
                  refine J_seq (fun σ w => vI .i64 (σ 3) fun x3 => class_Of.p5 K x3 w) ?_ ?_
                  ·
                    refine J_block ?_
                    refine J_seq (fun σ w => vI .i64 (σ 3) fun x3 => class_Of.p4 K x3 w) ?_ ?_
                    ·
                      exact sh_sound _ _ _ _ (Eq.mp (by kernel_rfl) h)
                    · intro σ w h
                      obtain ⟨x3, e3, h⟩ := vI_elim h
                      refine J.sub ?_ ((Sub.base _).upd e3)
                      clear e3
                      exact sh_sound _ _ _ _ (Eq.mp (by kernel_rfl) h)
                  · intro σ w h
                    obtain ⟨x3, e3, h⟩ := vI_elim h
                    refine J.sub ?_ ((Sub.base _).upd e3)
                    clear e3
                    exact sh_sound _ _ _ _ (Eq.mp (by kernel_rfl) h)
                · intro σ w h
                  obtain ⟨x3, e3, h⟩ := vI_elim h
                  refine J.sub ?_ ((Sub.base _).upd e3)
                  clear e3
                  exact sh_sound _ _ _ _ (Eq.mp (by kernel_rfl) h)
              · intro σ w h
                obtain ⟨x3, e3, h⟩ := vI_elim h
                refine J.sub ?_ ((Sub.base _).upd e3)
                clear e3
                exact sh_sound _ _ _ _ (Eq.mp (by kernel_rfl) h)
            · intro σ w h
              obtain ⟨x3, e3, h⟩ := vI_elim h
              refine J.sub ?_ ((Sub.base _).upd e3)
              clear e3
              exact sh_sound _ _ _ _ (Eq.mp (by kernel_rfl) h)
          · intro σ w h
            obtain ⟨x3, e3, h⟩ := vI_elim h
            refine J.sub ?_ ((Sub.base _).upd e3)
            clear e3
            exact sh_sound _ _ _ _ (Eq.mp (by kernel_rfl) h)
        · intro σ w h
          obtain ⟨x3, e3, h⟩ := vI_elim h
          refine J.sub ?_ ((Sub.base _).upd e3)
          clear e3
          exact sh_sound _ _ _ _ (Eq.mp (by kernel_rfl) h)

/-! ### hayloft/hayloftref06.Of: function 12 -/
abbrev ref06_Of.p4 (K : Value → World → Prop) (w : World) : Prop :=
  K (.int .i64 7) w
abbrev ref06_Of.b0 (L0 : Int → Int → World → Prop) (K : Value → World → Prop) (x0 : Int) (x3 : Int) (w : World) : Prop :=
  condP (decide (x3 < (7 : Int))) (CallsE Try.prog 14 #[.int .i64 x3] w (fun v1 w2 => ∃ (n3 : Int), v1 = .int .i64 n3 ∧ condP (decide (x0 ≤ n3)) (K (.int .i64 x3) w2) (L0 x0 (IntKind.wrap .i64 (x3 + (1 : Int))) w2))) (ref06_Of.p4 K w)
def ref06_Of.l0 (K : Value → World → Prop) (k : Nat) : Int → Int → World → Prop :=
  Nat.rec (motive := fun _ => Int → Int → World → Prop) (fun _ _ _ => False) (fun _ ih => ref06_Of.b0 ih K) k
theorem ref06_Of.l0_succ (K : Value → World → Prop) (k : Nat) (x0 : Int) (x3 : Int) (w : World) : ref06_Of.l0 K (k + 1) x0 x3 w = ref06_Of.b0 (ref06_Of.l0 K k) K x0 x3 w := rfl
abbrev ref06_Of.p3 (K : Value → World → Prop) (x0 : Int) (x3 : Int) (w : World) : Prop :=
  ∃ k, ref06_Of.l0 K k x0 x3 w
abbrev ref06_Of.p2 (K : Value → World → Prop) (x0 : Int) (w : World) : Prop :=
  ref06_Of.p3 K x0 0 w
abbrev ref06_Of.p1 (K : Value → World → Prop) (x0 : Int) (x9 : Bool) (w : World) : Prop :=
  condP x9 (K (.int .i64 (-1)) w) (ref06_Of.p2 K x0 w)
abbrev ref06_Of.p0 (K : Value → World → Prop) (x0 : Int) (w : World) : Prop :=
  condP (decide (x0 < (1 : Int))) (ref06_Of.p1 K x0 true w) (ref06_Of.p1 K x0 (decide ((4096 : Int) < x0)) w)
abbrev ref06_Of.F (q0 : Int) (K : Value → World → Prop) (w : World) : Prop :=
  ref06_Of.p0 K q0 w
theorem ref06_Of.ok {q0 : Int} {K : Value → World → Prop} {w : World} (h : ref06_Of.F q0 K w) :
    CallsE Try.prog 12 #[.int .i64 q0] w K := by
  refine calls_of_J (n := 19) (rs := [.tmp 2]) Try.func12 rfl rfl rfl rfl ?_
  refine J_seq (fun σ w => vI .i64 (σ 0) fun x0 => ref06_Of.p0 K x0 w) ?_ ?_
  ·
    exact sh_sound _ _ _ _ (Eq.mp (by kernel_rfl) h)
  · intro σ w h
    obtain ⟨x0, e0, h⟩ := vI_elim h
    refine J.sub ?_ ((Sub.base _).upd e0)
    clear e0
    refine J_seq (fun σ w => vI .i64 (σ 0) fun x0 => ref06_Of.p2 K x0 w) ?_ ?_
    ·
      refine J_seq (fun σ w => vI .i64 (σ 0) fun x0 => vB (σ 9) fun x9 => ref06_Of.p1 K x0 x9 w) ?_ ?_
      ·
        exact sh_sound _ _ _ _ (Eq.mp (by kernel_rfl) h)
      · intro σ w h
        obtain ⟨x0, e0, h⟩ := vI_elim h
        obtain ⟨x9, e9, h⟩ := vB_elim h
        refine J.sub ?_ (((Sub.base _).upd e0).upd e9)
        clear e0 e9
        exact sh_sound _ _ _ _ (Eq.mp (by kernel_rfl) h)
    · intro σ w h
      obtain ⟨x0, e0, h⟩ := vI_elim h
      refine J.sub ?_ ((Sub.base _).upd e0)
      clear e0
      refine J_seq (fun σ w => ref06_Of.p4 K w) ?_ ?_
      ·
        refine J_seq (fun σ w => vI .i64 (σ 0) fun x0 => vI .i64 (σ 3) fun x3 => ref06_Of.p3 K x0 x3 w) ?_ ?_
        ·
          exact sh_sound _ _ _ _ (Eq.mp (by kernel_rfl) h)
        · intro σ w h
          obtain ⟨x0, e0, h⟩ := vI_elim h
          obtain ⟨x3, e3, h⟩ := vI_elim h
          refine J.sub ?_ (((Sub.base _).upd e0).upd e3)
          clear e0 e3
          refine J_block ?_
          refine J_loop (fun k σ w => vI .i64 (σ 0) fun x0 => vI .i64 (σ 3) fun x3 => ref06_Of.l0 K k x0 x3 w) (Eq.mp (by kernel_rfl) h) ?_ ?_
          · intro σ w h
            obtain ⟨x0, e0, h⟩ := vI_elim h
            obtain ⟨x3, e3, h⟩ := vI_elim h
            exact h
          · intro k0 σ w h
            obtain ⟨x0, e0, h⟩ := vI_elim h
            obtain ⟨x3, e3, h⟩ := vI_elim h
            refine J.sub ?_ (((Sub.base _).upd e0).upd e3)
            clear e0 e3
            exact sh_sound _ _ _ _ (Eq.mp (by kernel_rfl) h)
      · intro σ w h
        refine J.sub ?_ (Sub.base _)
        exact sh_sound _ _ _ _ (Eq.mp (by kernel_rfl) h)

/-! ### hayloft/class.Size: function 13 -/
abbrev class_Size.p4 (K : Value → World → Prop) (x3 : Int) (w : World) : Prop :=
  K (.int .i64 x3) w
abbrev class_Size.p3 (K : Value → World → Prop) (x0 : Int) (x3 : Int) (w : World) : Prop :=
  (2 : Int) ≠ 0 ∧ condP ((Int.tmod x0 2) == (1 : Int)) ((2 : Int) ≠ 0 ∧ class_Size.p4 K (IntKind.wrap .i64 (x3 + (IntKind.wrap .i64 (Int.tdiv x3 2)))) w) (class_Size.p4 K x3 w)
abbrev class_Size.p2 (K : Value → World → Prop) (x0 : Int) (w : World) : Prop :=
  (2 : Int) ≠ 0 ∧ 0 ≤ (IntKind.wrap .i64 (Int.tdiv x0 2)) ∧ class_Size.p3 K x0 (ishl .i64 16 (IntKind.wrap .i64 (Int.tdiv x0 2))) w
abbrev class_Size.p1 (K : Value → World → Prop) (x0 : Int) (x9 : Bool) (w : World) : Prop :=
  condP x9 (K (.int .i64 0) w) (class_Size.p2 K x0 w)
abbrev class_Size.p0 (K : Value → World → Prop) (x0 : Int) (w : World) : Prop :=
  condP (decide (x0 < (0 : Int))) (class_Size.p1 K x0 true w) (class_Size.p1 K x0 (decide ((7 : Int) ≤ x0)) w)
abbrev class_Size.F (q0 : Int) (K : Value → World → Prop) (w : World) : Prop :=
  class_Size.p0 K q0 w
theorem class_Size.ok {q0 : Int} {K : Value → World → Prop} {w : World} (h : class_Size.F q0 K w) :
    CallsE Try.prog 13 #[.int .i64 q0] w K := by
  refine calls_of_J (n := 21) (rs := [.tmp 2]) Try.func13 rfl rfl rfl rfl ?_
  refine J_seq (fun σ w => vI .i64 (σ 0) fun x0 => class_Size.p0 K x0 w) ?_ ?_
  ·
    exact sh_sound _ _ _ _ (Eq.mp (by kernel_rfl) h)
  · intro σ w h
    obtain ⟨x0, e0, h⟩ := vI_elim h
    refine J.sub ?_ ((Sub.base _).upd e0)
    clear e0
    refine J_seq (fun σ w => vI .i64 (σ 0) fun x0 => class_Size.p2 K x0 w) ?_ ?_
    ·
      refine J_seq (fun σ w => vI .i64 (σ 0) fun x0 => vB (σ 9) fun x9 => class_Size.p1 K x0 x9 w) ?_ ?_
      ·
        exact sh_sound _ _ _ _ (Eq.mp (by kernel_rfl) h)
      · intro σ w h
        obtain ⟨x0, e0, h⟩ := vI_elim h
        obtain ⟨x9, e9, h⟩ := vB_elim h
        refine J.sub ?_ (((Sub.base _).upd e0).upd e9)
        clear e0 e9
        exact sh_sound _ _ _ _ (Eq.mp (by kernel_rfl) h)
    · intro σ w h
      obtain ⟨x0, e0, h⟩ := vI_elim h
      refine J.sub ?_ ((Sub.base _).upd e0)
      clear e0
      refine J_seq (fun σ w => vI .i64 (σ 0) fun x0 => vI .i64 (σ 3) fun x3 => class_Size.p3 K x0 x3 w) ?_ ?_
      ·
        exact sh_sound _ _ _ _ (Eq.mp (by kernel_rfl) h)
      · intro σ w h
        obtain ⟨x0, e0, h⟩ := vI_elim h
        obtain ⟨x3, e3, h⟩ := vI_elim h
        refine J.sub ?_ (((Sub.base _).upd e0).upd e3)
        clear e0 e3
        refine J_seq (fun σ w => vI .i64 (σ 3) fun x3 => class_Size.p4 K x3 w) ?_ ?_
        ·
          exact sh_sound _ _ _ _ (Eq.mp (by kernel_rfl) h)
        · intro σ w h
          obtain ⟨x3, e3, h⟩ := vI_elim h
          refine J.sub ?_ ((Sub.base _).upd e3)
          clear e3
          exact sh_sound _ _ _ _ (Eq.mp (by kernel_rfl) h)

/-! ### hayloft/hayloftref06.Size: function 14 -/
abbrev ref06_Size.p2 (K : Value → World → Prop) (x0 : Int) (w : World) : Prop :=
  (0 ≤ x0 ∧ x0 < ((7 : Nat) : Int)) ∧ ∃ (n1 : Int), ([.int .i64 16, .int .i64 24, .int .i64 32, .int .i64 48, .int .i64 64, .int .i64 96, .int .i64 128] : List Value)[x0.toNat]? = some (.int .i64 n1) ∧ K (.int .i64 n1) w
abbrev ref06_Size.p1 (K : Value → World → Prop) (x0 : Int) (x8 : Bool) (w : World) : Prop :=
  condP x8 (K (.int .i64 0) w) (ref06_Size.p2 K x0 w)
abbrev ref06_Size.p0 (K : Value → World → Prop) (x0 : Int) (w : World) : Prop :=
  condP (decide (x0 < (0 : Int))) (ref06_Size.p1 K x0 true w) (ref06_Size.p1 K x0 (decide ((6 : Int) < x0)) w)
abbrev ref06_Size.F (q0 : Int) (K : Value → World → Prop) (w : World) : Prop :=
  ref06_Size.p0 K q0 w
theorem ref06_Size.ok {q0 : Int} {K : Value → World → Prop} {w : World} (h : ref06_Size.F q0 K w) :
    CallsE Try.prog 14 #[.int .i64 q0] w K := by
  refine calls_of_J (n := 12) (rs := [.tmp 2]) Try.func14 rfl rfl rfl rfl ?_
  refine J_seq (fun σ w => vI .i64 (σ 0) fun x0 => ref06_Size.p0 K x0 w) ?_ ?_
  ·
    exact sh_sound _ _ _ _ (Eq.mp (by kernel_rfl) h)
  · intro σ w h
    obtain ⟨x0, e0, h⟩ := vI_elim h
    refine J.sub ?_ ((Sub.base _).upd e0)
    clear e0
    refine J_seq (fun σ w => vI .i64 (σ 0) fun x0 => ref06_Size.p2 K x0 w) ?_ ?_
    ·
      refine J_seq (fun σ w => vI .i64 (σ 0) fun x0 => vB (σ 8) fun x8 => ref06_Size.p1 K x0 x8 w) ?_ ?_
      ·
        exact sh_sound _ _ _ _ (Eq.mp (by kernel_rfl) h)
      · intro σ w h
        obtain ⟨x0, e0, h⟩ := vI_elim h
        obtain ⟨x8, e8, h⟩ := vB_elim h
        refine J.sub ?_ (((Sub.base _).upd e0).upd e8)
        clear e0 e8
        exact sh_sound _ _ _ _ (Eq.mp (by kernel_rfl) h)
    · intro σ w h
      obtain ⟨x0, e0, h⟩ := vI_elim h
      refine J.sub ?_ ((Sub.base _).upd e0)
      clear e0
      exact sh_sound _ _ _ _ (Eq.mp (by kernel_rfl) h)

/-! ### hayloft/class.Slots: function 15 -/
abbrev class_Slots.F (q0 : Int) (K : Value → World → Prop) (w : World) : Prop :=
  condP (q0 == (7 : Int)) (K (.int .i64 1) w) (CallsE Try.prog 13 #[.int .i64 q0] w (fun v1 w2 => ∃ (n3 : Int), v1 = .int .i64 n3 ∧ condP (decide ((0 : Int) < n3)) (n3 ≠ 0 ∧ K (.int .i64 (IntKind.wrap .i64 (Int.tdiv 256 n3))) w2) (K (.int .i64 0) w2)))
theorem class_Slots.ok {q0 : Int} {K : Value → World → Prop} {w : World} (h : class_Slots.F q0 K w) :
    CallsE Try.prog 15 #[.int .i64 q0] w K := by
  refine calls_of_J (n := 12) (rs := [.tmp 2]) Try.func15 rfl rfl rfl rfl ?_
  exact sh_sound _ _ _ _ (Eq.mp (by kernel_rfl) h)

/-! ### hayloft/hayloftref06.Slots: function 16 -/
abbrev ref06_Slots.F (q0 : Int) (K : Value → World → Prop) (w : World) : Prop :=
  condP (q0 == (7 : Int)) (K (.int .i64 1) w) (CallsE Try.prog 14 #[.int .i64 q0] w (fun v1 w2 => ∃ (n3 : Int), v1 = .int .i64 n3 ∧ condP (n3 == (0 : Int)) (K (.int .i64 0) w2) (CallsE Try.prog 14 #[.int .i64 q0] w2 (fun v4 w5 => ∃ (n6 : Int), v4 = .int .i64 n6 ∧ n6 ≠ 0 ∧ K (.int .i64 (IntKind.wrap .i64 (Int.tdiv 256 n6))) w5))))
theorem ref06_Slots.ok {q0 : Int} {K : Value → World → Prop} {w : World} (h : ref06_Slots.F q0 K w) :
    CallsE Try.prog 16 #[.int .i64 q0] w K := by
  refine calls_of_J (n := 11) (rs := [.tmp 2]) Try.func16 rfl rfl rfl rfl ?_
  exact sh_sound _ _ _ _ (Eq.mp (by kernel_rfl) h)

/-! ### hayloft/class.Pages: function 17 -/
abbrev class_Pages.F (q0 : Int) (K : Value → World → Prop) (w : World) : Prop :=
  CallsE Try.prog 11 #[.int .i64 q0] w (fun v1 w2 => ∃ (n3 : Int), v1 = .int .i64 n3 ∧ condP (decide (n3 < (0 : Int))) (K (.int .i64 0) w2) (condP (decide (n3 < (7 : Int))) (K (.int .i64 1) w2) ((256 : Int) ≠ 0 ∧ K (.int .i64 (IntKind.wrap .i64 (Int.tdiv (IntKind.wrap .i64 ((IntKind.wrap .i64 (q0 + (256 : Int))) - (1 : Int))) 256))) w2)))
theorem class_Pages.ok {q0 : Int} {K : Value → World → Prop} {w : World} (h : class_Pages.F q0 K w) :
    CallsE Try.prog 17 #[.int .i64 q0] w K := by
  refine calls_of_J (n := 16) (rs := [.tmp 2]) Try.func17 rfl rfl rfl rfl ?_
  exact sh_sound _ _ _ _ (Eq.mp (by kernel_rfl) h)

/-! ### hayloft/hayloftref06.Pages: function 18 -/
abbrev ref06_Pages.F (q0 : Int) (K : Value → World → Prop) (w : World) : Prop :=
  CallsE Try.prog 12 #[.int .i64 q0] w (fun v1 w2 => ∃ (n3 : Int), v1 = .int .i64 n3 ∧ condP (decide (n3 < (0 : Int))) (K (.int .i64 0) w2) (CallsE Try.prog 12 #[.int .i64 q0] w2 (fun v4 w5 => ∃ (n6 : Int), v4 = .int .i64 n6 ∧ condP (decide (n6 < (7 : Int))) (K (.int .i64 1) w5) ((256 : Int) ≠ 0 ∧ K (.int .i64 (IntKind.wrap .i64 (Int.tdiv (IntKind.wrap .i64 (q0 + (255 : Int))) 256))) w5))))
theorem ref06_Pages.ok {q0 : Int} {K : Value → World → Prop} {w : World} (h : ref06_Pages.F q0 K w) :
    CallsE Try.prog 18 #[.int .i64 q0] w K := by
  refine calls_of_J (n := 12) (rs := [.tmp 2]) Try.func18 rfl rfl rfl rfl ?_
  exact sh_sound _ _ _ _ (Eq.mp (by kernel_rfl) h)

/-! ### hayloft/class.Need: function 19 -/
abbrev class_Need.p9 (L0 : Addr → Int → Option Addr → Nat → Nat → Int → Int → World → Prop) (K : Value → World → Prop) (x3 : Addr) (x4 : Int) (x10A : Option Addr) (x10n : Nat) (x10c : Nat) (x11 : Int) (x12 : Int) (w : World) : Prop :=
  L0 x3 x4 x10A x10n x10c x11 (IntKind.wrap .i64 (x12 + (1 : Int))) w
abbrev class_Need.p8 (L0 : Addr → Int → Option Addr → Nat → Nat → Int → Int → World → Prop) (K : Value → World → Prop) (x3 : Addr) (x4 : Int) (x6 : Int) (x7 : Int) (x10A : Option Addr) (x10n : Nat) (x10c : Nat) (x11 : Int) (x12 : Int) (x23 : Bool) (w : World) : Prop :=
  condP x23 ((0 ≤ x7 ∧ x7 < ((7 : Nat) : Int)) ∧ ∃ (n7 : Int), w.cell? (x3.add x7.toNat) = some (.int .i64 n7) ∧ (0 ≤ x7 ∧ x7 < ((7 : Nat) : Int)) ∧ canStore w (x3.add x7.toNat) ∧ wlet (w.setCell (x3.add x7.toNat) (.int .i64 (IntKind.wrap .i64 (n7 + (1 : Int))))) fun w8 => class_Need.p9 L0 K x3 x4 x10A x10n x10c x11 x12 w8) (CallsE Try.prog 17 #[.int .i64 x6] w (fun v9 w10 => ∃ (n11 : Int), v9 = .int .i64 n11 ∧ class_Need.p9 L0 K x3 (IntKind.wrap .i64 (x4 + n11)) x10A x10n x10c x11 x12 w10))
abbrev class_Need.p7 (L0 : Addr → Int → Option Addr → Nat → Nat → Int → Int → World → Prop) (K : Value → World → Prop) (x3 : Addr) (x4 : Int) (x6 : Int) (x7 : Int) (x10A : Option Addr) (x10n : Nat) (x10c : Nat) (x11 : Int) (x12 : Int) (w : World) : Prop :=
  condP (decide ((0 : Int) ≤ x7)) (class_Need.p8 L0 K x3 x4 x6 x7 x10A x10n x10c x11 x12 (decide (x7 < (7 : Int))) w) (class_Need.p8 L0 K x3 x4 x6 x7 x10A x10n x10c x11 x12 false w)
abbrev class_Need.p6 (L0 : Addr → Int → Option Addr → Nat → Nat → Int → Int → World → Prop) (K : Value → World → Prop) (x3 : Addr) (x4 : Int) (x6 : Int) (x10A : Option Addr) (x10n : Nat) (x10c : Nat) (x11 : Int) (x12 : Int) (w : World) : Prop :=
  CallsE Try.prog 11 #[.int .i64 x6] w (fun v4 w5 => ∃ (n6 : Int), v4 = .int .i64 n6 ∧ class_Need.p7 L0 K x3 x4 x6 n6 x10A x10n x10c x11 x12 w5)
abbrev class_Need.p5 (L0 : Addr → Int → Option Addr → Nat → Nat → Int → Int → World → Prop) (K : Value → World → Prop) (x3 : Addr) (x4 : Int) (x10A : Option Addr) (x10n : Nat) (x10c : Nat) (x11 : Int) (x12 : Int) (w : World) : Prop :=
  (0 ≤ x12 ∧ x12 < ((x10n : Nat) : Int)) ∧ ∃ (a2 : Addr), x10A = some a2 ∧ ∃ (n3 : Int), w.cell? (a2.add x12.toNat) = some (.int .i64 n3) ∧ class_Need.p6 L0 K x3 x4 n3 x10A x10n x10c x11 x12 w
abbrev class_Need.p12 (K : Value → World → Prop) (x4 : Int) (w : World) : Prop :=
  K (.int .i64 x4) w
abbrev class_Need.b1 (L1 : Int → Int → Int → Int → Int → Int → Int → Int → Int → World → Prop) (K : Value → World → Prop) (x4 : Int) (x34_0 : Int) (x34_1 : Int) (x34_2 : Int) (x34_3 : Int) (x34_4 : Int) (x34_5 : Int) (x34_6 : Int) (x35 : Int) (w : World) : Prop :=
  condP (decide (x35 < (7 : Int))) ((0 ≤ x35 ∧ x35 < ((7 : Nat) : Int)) ∧ ∃ (n19 : Int), ([.int .i64 x34_0, .int .i64 x34_1, .int .i64 x34_2, .int .i64 x34_3, .int .i64 x34_4, .int .i64 x34_5, .int .i64 x34_6] : List Value)[x35.toNat]? = some (.int .i64 n19) ∧ CallsE Try.prog 15 #[.int .i64 x35] w (fun v20 w21 => ∃ (n22 : Int), v20 = .int .i64 n22 ∧ CallsE Try.prog 15 #[.int .i64 x35] w21 (fun v23 w24 => ∃ (n25 : Int), v23 = .int .i64 n25 ∧ n25 ≠ 0 ∧ L1 (IntKind.wrap .i64 (x4 + (IntKind.wrap .i64 (Int.tdiv (IntKind.wrap .i64 ((IntKind.wrap .i64 (n19 + n22)) - (1 : Int))) n25)))) x34_0 x34_1 x34_2 x34_3 x34_4 x34_5 x34_6 (IntKind.wrap .i64 (x35 + (1 : Int))) w24))) (class_Need.p12 K x4 w)
def class_Need.l1 (K : Value → World → Prop) (k : Nat) : Int → Int → Int → Int → Int → Int → Int → Int → Int → World → Prop :=
  Nat.rec (motive := fun _ => Int → Int → Int → Int → Int → Int → Int → Int → Int → World → Prop) (fun _ _ _ _ _ _ _ _ _ _ => False) (fun _ ih => class_Need.b1 ih K) k
theorem class_Need.l1_succ (K : Value → World → Prop) (k : Nat) (x4 : Int) (x34_0 : Int) (x34_1 : Int) (x34_2 : Int) (x34_3 : Int) (x34_4 : Int) (x34_5 : Int) (x34_6 : Int) (x35 : Int) (w : World) : class_Need.l1 K (k + 1) x4 x34_0 x34_1 x34_2 x34_3 x34_4 x34_5 x34_6 x35 w = class_Need.b1 (class_Need.l1 K k) K x4 x34_0 x34_1 x34_2 x34_3 x34_4 x34_5 x34_6 x35 w := rfl
abbrev class_Need.p11 (K : Value → World → Prop) (x4 : Int) (x34_0 : Int) (x34_1 : Int) (x34_2 : Int) (x34_3 : Int) (x34_4 : Int) (x34_5 : Int) (x34_6 : Int) (x35 : Int) (w : World) : Prop :=
  ∃ k, class_Need.l1 K k x4 x34_0 x34_1 x34_2 x34_3 x34_4 x34_5 x34_6 x35 w
abbrev class_Need.p10 (K : Value → World → Prop) (x3 : Addr) (x4 : Int) (w : World) : Prop :=
  ∃ (n12 : Int), w.cell? x3 = some (.int .i64 n12) ∧ ∃ (n13 : Int), w.cell? (x3.add 1) = some (.int .i64 n13) ∧ ∃ (n14 : Int), w.cell? (x3.add 2) = some (.int .i64 n14) ∧ ∃ (n15 : Int), w.cell? (x3.add 3) = some (.int .i64 n15) ∧ ∃ (n16 : Int), w.cell? (x3.add 4) = some (.int .i64 n16) ∧ ∃ (n17 : Int), w.cell? (x3.add 5) = some (.int .i64 n17) ∧ ∃ (n18 : Int), w.cell? (x3.add 6) = some (.int .i64 n18) ∧ class_Need.p11 K x4 n12 n13 n14 n15 n16 n17 n18 0 w
abbrev class_Need.p4 (L0 : Addr → Int → Option Addr → Nat → Nat → Int → Int → World → Prop) (K : Value → World → Prop) (x3 : Addr) (x4 : Int) (x10A : Option Addr) (x10n : Nat) (x10c : Nat) (x11 : Int) (x12 : Int) (x13 : Bool) (w : World) : Prop :=
  condP x13 (class_Need.p5 L0 K x3 x4 x10A x10n x10c x11 x12 w) (class_Need.p10 K x3 x4 w)
abbrev class_Need.b0 (L0 : Addr → Int → Option Addr → Nat → Nat → Int → Int → World → Prop) (K : Value → World → Prop) (x3 : Addr) (x4 : Int) (x10A : Option Addr) (x10n : Nat) (x10c : Nat) (x11 : Int) (x12 : Int) (w : World) : Prop :=
  class_Need.p4 L0 K x3 x4 x10A x10n x10c x11 x12 (decide (x12 < x11)) w
def class_Need.l0 (K : Value → World → Prop) (k : Nat) : Addr → Int → Option Addr → Nat → Nat → Int → Int → World → Prop :=
  Nat.rec (motive := fun _ => Addr → Int → Option Addr → Nat → Nat → Int → Int → World → Prop) (fun _ _ _ _ _ _ _ _ => False) (fun _ ih => class_Need.b0 ih K) k
theorem class_Need.l0_succ (K : Value → World → Prop) (k : Nat) (x3 : Addr) (x4 : Int) (x10A : Option Addr) (x10n : Nat) (x10c : Nat) (x11 : Int) (x12 : Int) (w : World) : class_Need.l0 K (k + 1) x3 x4 x10A x10n x10c x11 x12 w = class_Need.b0 (class_Need.l0 K k) K x3 x4 x10A x10n x10c x11 x12 w := rfl
abbrev class_Need.p3 (K : Value → World → Prop) (x3 : Addr) (x4 : Int) (x10A : Option Addr) (x10n : Nat) (x10c : Nat) (x11 : Int) (x12 : Int) (w : World) : Prop :=
  ∃ k, class_Need.l0 K k x3 x4 x10A x10n x10c x11 x12 w
abbrev class_Need.p2 (K : Value → World → Prop) (x0A : Option Addr) (x0n : Nat) (x0c : Nat) (x3 : Addr) (x4 : Int) (w : World) : Prop :=
  class_Need.p3 K x3 x4 x0A x0n x0c ((x0n : Nat) : Int) 0 w
abbrev class_Need.p1 (K : Value → World → Prop) (x0A : Option Addr) (x0n : Nat) (x0c : Nat) (x3 : Addr) (w : World) : Prop :=
  class_Need.p2 K x0A x0n x0c x3 0 w
abbrev class_Need.p0 (K : Value → World → Prop) (x0A : Option Addr) (x0n : Nat) (x0c : Nat) (w : World) : Prop :=
  wlet (w.alloc (.cells #[.int .i64 0, .int .i64 0, .int .i64 0, .int .i64 0, .int .i64 0, .int .i64 0, .int .i64 0] 31)) fun w1 => class_Need.p1 K x0A x0n x0c (⟨w.heap.size, 0, none⟩) w1
abbrev class_Need.F (q0A : Option Addr) (q0n : Nat) (q0c : Nat) (K : Value → World → Prop) (w : World) : Prop :=
  class_Need.p0 K q0A q0n q0c w
theorem class_Need.ok {q0A : Option Addr} {q0n : Nat} {q0c : Nat} {K : Value → World → Prop} {w : World} (h : class_Need.F q0A q0n q0c K w) :
    CallsE Try.prog 19 #[.slice q0A q0n q0c] w K := by
  refine calls_of_J (n := 51) (rs := [.tmp 2]) Try.func19 rfl rfl rfl rfl ?_
  refine J_seq (fun σ w => vS (σ 0) fun x0A x0n x0c => class_Need.p0 K x0A x0n x0c w) ?_ ?_
  ·
    exact sh_sound _ _ _ _ (Eq.mp (by kernel_rfl) h)
  · intro σ w h
    obtain ⟨x0A, x0n, x0c, e0, h⟩ := vS_elim h
    refine J.sub ?_ ((Sub.base _).upd e0)
    clear e0
    refine J_seq (fun σ w => vS (σ 0) fun x0A x0n x0c => vPa (σ 3) fun x3 => class_Need.p1 K x0A x0n x0c x3 w) ?_ ?_
    ·
      exact sh_sound _ _ _ _ (Eq.mp (by kernel_rfl) h)
    · intro σ w h
      obtain ⟨x0A, x0n, x0c, e0, h⟩ := vS_elim h
      obtain ⟨x3, e3, h⟩ := vPa_elim h
      refine J.sub ?_ (((Sub.base _).upd e0).upd e3)
      clear e0 e3
      refine J_seq (fun σ w => vS (σ 0) fun x0A x0n x0c => vPa (σ 3) fun x3 => vI .i64 (σ 4) fun x4 => class_Need.p2 K x0A x0n x0c x3 x4 w) ?_ ?_
      ·
        exact sh_sound _ _ _ _ (Eq.mp (by kernel_rfl) h)
      · intro σ w h
        obtain ⟨x0A, x0n, x0c, e0, h⟩ := vS_elim h
        obtain ⟨x3, e3, h⟩ := vPa_elim h
        obtain ⟨x4, e4, h⟩ := vI_elim h
        refine J.sub ?_ ((((Sub.base _).upd e0).upd e3).upd e4)
        clear e0 e3 e4
        refine J_seq (fun σ w => vPa (σ 3) fun x3 => vI .i64 (σ 4) fun x4 => class_Need.p10 K x3 x4 w) ?_ ?_
        ·
          refine J_seq (fun σ w => vPa (σ 3) fun x3 => vI .i64 (σ 4) fun x4 => vS (σ 10) fun x10A x10n x10c => vI .i64 (σ 11) fun x11 => vI .i64 (σ 12) fun x12 => class_Need.p3 K x3 x4 x10A x10n x10c x11 x12 w) ?_ ?_
          ·
            exact sh_sound _ _ _ _ (Eq.mp (by kernel_rfl) h)
          · intro σ w h
            obtain ⟨x3, e3, h⟩ := vPa_elim h
            obtain ⟨x4, e4, h⟩ := vI_elim h
            obtain ⟨x10A, x10n, x10c, e10, h⟩ := vS_elim h
            obtain ⟨x11, e11, h⟩ := vI_elim h
            obtain ⟨x12, e12, h⟩ := vI_elim h
            refine J.sub ?_ ((((((Sub.base _).upd e3).upd e4).upd e10).upd e11).upd e12)
            clear e3 e4 e10 e11 e12
            refine J_block ?_
            refine J_loop (fun k σ w => vPa (σ 3) fun x3 => vI .i64 (σ 4) fun x4 => vS (σ 10) fun x10A x10n x10c => vI .i64 (σ 11) fun x11 => vI .i64 (σ 12) fun x12 => class_Need.l0 K k x3 x4 x10A x10n x10c x11 x12 w) (Eq.mp (by kernel_rfl) h) ?_ ?_
            · intro σ w h
              obtain ⟨x3, e3, h⟩ := vPa_elim h
              obtain ⟨x4, e4, h⟩ := vI_elim h
              obtain ⟨x10A, x10n, x10c, e10, h⟩ := vS_elim h
              obtain ⟨x11, e11, h⟩ := vI_elim h
              obtain ⟨x12, e12, h⟩ := vI_elim h
              exact h
            · intro k0 σ w h
              obtain ⟨x3, e3, h⟩ := vPa_elim h
              obtain ⟨x4, e4, h⟩ := vI_elim h
              obtain ⟨x10A, x10n, x10c, e10, h⟩ := vS_elim h
              obtain ⟨x11, e11, h⟩ := vI_elim h
              obtain ⟨x12, e12, h⟩ := vI_elim h
              refine J.sub ?_ ((((((Sub.base _).upd e3).upd e4).upd e10).upd e11).upd e12)
              clear e3 e4 e10 e11 e12
              refine J_seq (fun σ w => vPa (σ 3) fun x3 => vI .i64 (σ 4) fun x4 => vS (σ 10) fun x10A x10n x10c => vI .i64 (σ 11) fun x11 => vI .i64 (σ 12) fun x12 => vB (σ 13) fun x13 => class_Need.p4 (class_Need.l0 K k0) K x3 x4 x10A x10n x10c x11 x12 x13 w) ?_ ?_
              ·
                exact sh_sound _ _ _ _ (Eq.mp (by kernel_rfl) h)
              · intro σ w h
                obtain ⟨x3, e3, h⟩ := vPa_elim h
                obtain ⟨x4, e4, h⟩ := vI_elim h
                obtain ⟨x10A, x10n, x10c, e10, h⟩ := vS_elim h
                obtain ⟨x11, e11, h⟩ := vI_elim h
                obtain ⟨x12, e12, h⟩ := vI_elim h
                obtain ⟨x13, e13, h⟩ := vB_elim h
                refine J.sub ?_ (((((((Sub.base _).upd e3).upd e4).upd e10).upd e11).upd e12).upd e13)
                clear e3 e4 e10 e11 e12 e13
                refine J_seq (fun σ w => vPa (σ 3) fun x3 => vI .i64 (σ 4) fun x4 => vS (σ 10) fun x10A x10n x10c => vI .i64 (σ 11) fun x11 => vI .i64 (σ 12) fun x12 => class_Need.p5 (class_Need.l0 K k0) K x3 x4 x10A x10n x10c x11 x12 w) ?_ ?_
                ·
                  exact sh_sound _ _ _ _ (Eq.mp (by kernel_rfl) h)
                · intro σ w h
                  obtain ⟨x3, e3, h⟩ := vPa_elim h
                  obtain ⟨x4, e4, h⟩ := vI_elim h
                  obtain ⟨x10A, x10n, x10c, e10, h⟩ := vS_elim h
                  obtain ⟨x11, e11, h⟩ := vI_elim h
                  obtain ⟨x12, e12, h⟩ := vI_elim h
                  refine J.sub ?_ ((((((Sub.base _).upd e3).upd e4).upd e10).upd e11).upd e12)
                  clear e3 e4 e10 e11 e12
                  refine J_seq (fun σ w => vPa (σ 3) fun x3 => vI .i64 (σ 4) fun x4 => vS (σ 10) fun x10A x10n x10c => vI .i64 (σ 11) fun x11 => vI .i64 (σ 12) fun x12 => class_Need.p9 (class_Need.l0 K k0) K x3 x4 x10A x10n x10c x11 x12 w) ?_ ?_
                  ·
                    refine J_block ?_
                    refine J_seq (fun σ w => vPa (σ 3) fun x3 => vI .i64 (σ 4) fun x4 => vI .i64 (σ 6) fun x6 => vS (σ 10) fun x10A x10n x10c => vI .i64 (σ 11) fun x11 => vI .i64 (σ 12) fun x12 => class_Need.p6 (class_Need.l0 K k0) K x3 x4 x6 x10A x10n x10c x11 x12 w) ?_ ?_
                    ·
                      exact sh_sound _ _ _ _ (Eq.mp (by kernel_rfl) h)
                    · intro σ w h
                      obtain ⟨x3, e3, h⟩ := vPa_elim h
                      obtain ⟨x4, e4, h⟩ := vI_elim h
                      obtain ⟨x6, e6, h⟩ := vI_elim h
                      obtain ⟨x10A, x10n, x10c, e10, h⟩ := vS_elim h
                      obtain ⟨x11, e11, h⟩ := vI_elim h
                      obtain ⟨x12, e12, h⟩ := vI_elim h
                      refine J.sub ?_ (((((((Sub.base _).upd e3).upd e4).upd e6).upd e10).upd e11).upd e12)
                      clear e3 e4 e6 e10 e11 e12
                      refine J_seq (fun σ w => vPa (σ 3) fun x3 => vI .i64 (σ 4) fun x4 => vI .i64 (σ 6) fun x6 => vI .i64 (σ 7) fun x7 => vS (σ 10) fun x10A x10n x10c => vI .i64 (σ 11) fun x11 => vI .i64 (σ 12) fun x12 => class_Need.p7 (class_Need.l0 K k0) K x3 x4 x6 x7 x10A x10n x10c x11 x12 w) ?_ ?_
                      ·
                        exact sh_sound _ _ _ _ (Eq.mp (by kernel_rfl) h)
                      · intro σ w h
                        obtain ⟨x3, e3, h⟩ := vPa_elim h
                        obtain ⟨x4, e4, h⟩ := vI_elim h
                        obtain ⟨x6, e6, h⟩ := vI_elim h
                        obtain ⟨x7, e7, h⟩ := vI_elim h
                        obtain ⟨x10A, x10n, x10c, e10, h⟩ := vS_elim h
                        obtain ⟨x11, e11, h⟩ := vI_elim h
                        obtain ⟨x12, e12, h⟩ := vI_elim h
                        refine J.sub ?_ ((((((((Sub.base _).upd e3).upd e4).upd e6).upd e7).upd e10).upd e11).upd e12)
                        clear e3 e4 e6 e7 e10 e11 e12
                        refine J_seq (fun σ w => vPa (σ 3) fun x3 => vI .i64 (σ 4) fun x4 => vI .i64 (σ 6) fun x6 => vI .i64 (σ 7) fun x7 => vS (σ 10) fun x10A x10n x10c => vI .i64 (σ 11) fun x11 => vI .i64 (σ 12) fun x12 => vB (σ 23) fun x23 => class_Need.p8 (class_Need.l0 K k0) K x3 x4 x6 x7 x10A x10n x10c x11 x12 x23 w) ?_ ?_
                        ·
                          exact sh_sound _ _ _ _ (Eq.mp (by kernel_rfl) h)
                        · intro σ w h
                          obtain ⟨x3, e3, h⟩ := vPa_elim h
                          obtain ⟨x4, e4, h⟩ := vI_elim h
                          obtain ⟨x6, e6, h⟩ := vI_elim h
                          obtain ⟨x7, e7, h⟩ := vI_elim h
                          obtain ⟨x10A, x10n, x10c, e10, h⟩ := vS_elim h
                          obtain ⟨x11, e11, h⟩ := vI_elim h
                          obtain ⟨x12, e12, h⟩ := vI_elim h
                          obtain ⟨x23, e23, h⟩ := vB_elim h
                          refine J.sub ?_ (((((((((Sub.base _).upd e3).upd e4).upd e6).upd e7).upd e10).upd e11).upd e12).upd e23)
                          clear e3 e4 e6 e7 e10 e11 e12 e23
                          exact sh_sound _ _ _ _ (Eq.mp (by kernel_rfl) h)
                  · intro σ w h
                    obtain ⟨x3, e3, h⟩ := vPa_elim h
                    obtain ⟨x4, e4, h⟩ := vI_elim h
                    obtain ⟨x10A, x10n, x10c, e10, h⟩ := vS_elim h
                    obtain ⟨x11, e11, h⟩ := vI_elim h
                    obtain ⟨x12, e12, h⟩ := vI_elim h
                    refine J.sub ?_ ((((((Sub.base _).upd e3).upd e4).upd e10).upd e11).upd e12)
                    clear e3 e4 e10 e11 e12
                    exact sh_sound _ _ _ _ (Eq.mp (by kernel_rfl) h)
        · intro σ w h
          obtain ⟨x3, e3, h⟩ := vPa_elim h
          obtain ⟨x4, e4, h⟩ := vI_elim h
          refine J.sub ?_ (((Sub.base _).upd e3).upd e4)
          clear e3 e4
          refine J_seq (fun σ w => vI .i64 (σ 4) fun x4 => class_Need.p12 K x4 w) ?_ ?_
          ·
            refine J_seq (fun σ w => vI .i64 (σ 4) fun x4 => vA (σ 34) fun le34 => vC le34 fun ue34_0 re34_0 => vI .i64 ue34_0 fun x34_0 => vC re34_0 fun ue34_1 re34_1 => vI .i64 ue34_1 fun x34_1 => vC re34_1 fun ue34_2 re34_2 => vI .i64 ue34_2 fun x34_2 => vC re34_2 fun ue34_3 re34_3 => vI .i64 ue34_3 fun x34_3 => vC re34_3 fun ue34_4 re34_4 => vI .i64 ue34_4 fun x34_4 => vC re34_4 fun ue34_5 re34_5 => vI .i64 ue34_5 fun x34_5 => vC re34_5 fun ue34_6 re34_6 => vI .i64 ue34_6 fun x34_6 => vN re34_6 <| vI .i64 (σ 35) fun x35 => class_Need.p11 K x4 x34_0 x34_1 x34_2 x34_3 x34_4 x34_5 x34_6 x35 w) ?_ ?_
            ·
              exact sh_sound _ _ _ _ (Eq.mp (by kernel_rfl) h)
            · intro σ w h
              obtain ⟨x4, e4, h⟩ := vI_elim h
              obtain ⟨le34, e34, h⟩ := vA_elim h
              obtain ⟨ue34_0, re34_0, qe34_0, h⟩ := vC_elim h
              obtain ⟨x34_0, ze34_0, h⟩ := vI_elim h
              obtain ⟨ue34_1, re34_1, qe34_1, h⟩ := vC_elim h
              obtain ⟨x34_1, ze34_1, h⟩ := vI_elim h
              obtain ⟨ue34_2, re34_2, qe34_2, h⟩ := vC_elim h
              obtain ⟨x34_2, ze34_2, h⟩ := vI_elim h
              obtain ⟨ue34_3, re34_3, qe34_3, h⟩ := vC_elim h
              obtain ⟨x34_3, ze34_3, h⟩ := vI_elim h
              obtain ⟨ue34_4, re34_4, qe34_4, h⟩ := vC_elim h
              obtain ⟨x34_4, ze34_4, h⟩ := vI_elim h
              obtain ⟨ue34_5, re34_5, qe34_5, h⟩ := vC_elim h
              obtain ⟨x34_5, ze34_5, h⟩ := vI_elim h
              obtain ⟨ue34_6, re34_6, qe34_6, h⟩ := vC_elim h
              obtain ⟨x34_6, ze34_6, h⟩ := vI_elim h
              obtain ⟨qe34, h⟩ := vN_elim h
              subst qe34; subst ze34_6; subst qe34_6; subst ze34_5; subst qe34_5; subst ze34_4; subst qe34_4; subst ze34_3; subst qe34_3; subst ze34_2; subst qe34_2; subst ze34_1; subst qe34_1; subst ze34_0; subst qe34_0
              obtain ⟨x35, e35, h⟩ := vI_elim h
              refine J.sub ?_ ((((Sub.base _).upd e4).upd e34).upd e35)
              clear e4 e34 e35
              refine J_block ?_
              refine J_loop (fun k σ w => vI .i64 (σ 4) fun x4 => vA (σ 34) fun le34 => vC le34 fun ue34_0 re34_0 => vI .i64 ue34_0 fun x34_0 => vC re34_0 fun ue34_1 re34_1 => vI .i64 ue34_1 fun x34_1 => vC re34_1 fun ue34_2 re34_2 => vI .i64 ue34_2 fun x34_2 => vC re34_2 fun ue34_3 re34_3 => vI .i64 ue34_3 fun x34_3 => vC re34_3 fun ue34_4 re34_4 => vI .i64 ue34_4 fun x34_4 => vC re34_4 fun ue34_5 re34_5 => vI .i64 ue34_5 fun x34_5 => vC re34_5 fun ue34_6 re34_6 => vI .i64 ue34_6 fun x34_6 => vN re34_6 <| vI .i64 (σ 35) fun x35 => class_Need.l1 K k x4 x34_0 x34_1 x34_2 x34_3 x34_4 x34_5 x34_6 x35 w) (Eq.mp (by kernel_rfl) h) ?_ ?_
              · intro σ w h
                obtain ⟨x4, e4, h⟩ := vI_elim h
                obtain ⟨le34, e34, h⟩ := vA_elim h
                obtain ⟨ue34_0, re34_0, qe34_0, h⟩ := vC_elim h
                obtain ⟨x34_0, ze34_0, h⟩ := vI_elim h
                obtain ⟨ue34_1, re34_1, qe34_1, h⟩ := vC_elim h
                obtain ⟨x34_1, ze34_1, h⟩ := vI_elim h
                obtain ⟨ue34_2, re34_2, qe34_2, h⟩ := vC_elim h
                obtain ⟨x34_2, ze34_2, h⟩ := vI_elim h
                obtain ⟨ue34_3, re34_3, qe34_3, h⟩ := vC_elim h
                obtain ⟨x34_3, ze34_3, h⟩ := vI_elim h
                obtain ⟨ue34_4, re34_4, qe34_4, h⟩ := vC_elim h
                obtain ⟨x34_4, ze34_4, h⟩ := vI_elim h
                obtain ⟨ue34_5, re34_5, qe34_5, h⟩ := vC_elim h
                obtain ⟨x34_5, ze34_5, h⟩ := vI_elim h
                obtain ⟨ue34_6, re34_6, qe34_6, h⟩ := vC_elim h
                obtain ⟨x34_6, ze34_6, h⟩ := vI_elim h
                obtain ⟨qe34, h⟩ := vN_elim h
                subst qe34; subst ze34_6; subst qe34_6; subst ze34_5; subst qe34_5; subst ze34_4; subst qe34_4; subst ze34_3; subst qe34_3; subst ze34_2; subst qe34_2; subst ze34_1; subst qe34_1; subst ze34_0; subst qe34_0
                obtain ⟨x35, e35, h⟩ := vI_elim h
                exact h
              · intro k1 σ w h
                obtain ⟨x4, e4, h⟩ := vI_elim h
                obtain ⟨le34, e34, h⟩ := vA_elim h
                obtain ⟨ue34_0, re34_0, qe34_0, h⟩ := vC_elim h
                obtain ⟨x34_0, ze34_0, h⟩ := vI_elim h
                obtain ⟨ue34_1, re34_1, qe34_1, h⟩ := vC_elim h
                obtain ⟨x34_1, ze34_1, h⟩ := vI_elim h
                obtain ⟨ue34_2, re34_2, qe34_2, h⟩ := vC_elim h
                obtain ⟨x34_2, ze34_2, h⟩ := vI_elim h
                obtain ⟨ue34_3, re34_3, qe34_3, h⟩ := vC_elim h
                obtain ⟨x34_3, ze34_3, h⟩ := vI_elim h
                obtain ⟨ue34_4, re34_4, qe34_4, h⟩ := vC_elim h
                obtain ⟨x34_4, ze34_4, h⟩ := vI_elim h
                obtain ⟨ue34_5, re34_5, qe34_5, h⟩ := vC_elim h
                obtain ⟨x34_5, ze34_5, h⟩ := vI_elim h
                obtain ⟨ue34_6, re34_6, qe34_6, h⟩ := vC_elim h
                obtain ⟨x34_6, ze34_6, h⟩ := vI_elim h
                obtain ⟨qe34, h⟩ := vN_elim h
                subst qe34; subst ze34_6; subst qe34_6; subst ze34_5; subst qe34_5; subst ze34_4; subst qe34_4; subst ze34_3; subst qe34_3; subst ze34_2; subst qe34_2; subst ze34_1; subst qe34_1; subst ze34_0; subst qe34_0
                obtain ⟨x35, e35, h⟩ := vI_elim h
                refine J.sub ?_ ((((Sub.base _).upd e4).upd e34).upd e35)
                clear e4 e34 e35
                exact sh_sound _ _ _ _ (Eq.mp (by kernel_rfl) h)
          · intro σ w h
            obtain ⟨x4, e4, h⟩ := vI_elim h
            refine J.sub ?_ ((Sub.base _).upd e4)
            clear e4
            exact sh_sound _ _ _ _ (Eq.mp (by kernel_rfl) h)

/-! ### hayloft/hayloftref06.Need: function 20 -/
abbrev ref06_Need.p8 (L1 : Option Addr → Nat → Nat → Int → Int → Int → Int → Int → World → Prop) (L0 : Option Addr → Nat → Nat → Int → Int → World → Prop) (K : Value → World → Prop) (x0A : Option Addr) (x0n : Nat) (x0c : Nat) (x3 : Int) (x4 : Int) (x5 : Int) (x13 : Int) (x14 : Int) (w : World) : Prop :=
  L1 x0A x0n x0c x3 x4 x5 x13 (IntKind.wrap .i64 (x14 + (1 : Int))) w
abbrev ref06_Need.p7 (L1 : Option Addr → Nat → Nat → Int → Int → Int → Int → Int → World → Prop) (L0 : Option Addr → Nat → Nat → Int → Int → World → Prop) (K : Value → World → Prop) (x0A : Option Addr) (x0n : Nat) (x0c : Nat) (x3 : Int) (x4 : Int) (x5 : Int) (x13 : Int) (x14 : Int) (w : World) : Prop :=
  (0 ≤ x14 ∧ x14 < ((x0n : Nat) : Int)) ∧ ∃ (a1 : Addr), x0A = some a1 ∧ ∃ (n2 : Int), w.cell? (a1.add x14.toNat) = some (.int .i64 n2) ∧ CallsE Try.prog 12 #[.int .i64 n2] w (fun v3 w4 => ∃ (n5 : Int), v3 = .int .i64 n5 ∧ condP (n5 == x4) (ref06_Need.p8 L1 L0 K x0A x0n x0c x3 x4 (IntKind.wrap .i64 (x5 + (1 : Int))) x13 x14 w4) (ref06_Need.p8 L1 L0 K x0A x0n x0c x3 x4 x5 x13 x14 w4))
abbrev ref06_Need.p10 (L0 : Option Addr → Nat → Nat → Int → Int → World → Prop) (K : Value → World → Prop) (x0A : Option Addr) (x0n : Nat) (x0c : Nat) (x3 : Int) (x4 : Int) (w : World) : Prop :=
  L0 x0A x0n x0c x3 (IntKind.wrap .i64 (x4 + (1 : Int))) w
abbrev ref06_Need.p9 (L0 : Option Addr → Nat → Nat → Int → Int → World → Prop) (K : Value → World → Prop) (x0A : Option Addr) (x0n : Nat) (x0c : Nat) (x3 : Int) (x4 : Int) (x5 : Int) (w : World) : Prop :=
  CallsE Try.prog 16 #[.int .i64 x4] w (fun v6 w7 => ∃ (n8 : Int), v6 = .int .i64 n8 ∧ CallsE Try.prog 16 #[.int .i64 x4] w7 (fun v9 w10 => ∃ (n11 : Int), v9 = .int .i64 n11 ∧ n11 ≠ 0 ∧ ref06_Need.p10 L0 K x0A x0n x0c (IntKind.wrap .i64 (x3 + (IntKind.wrap .i64 (Int.tdiv (IntKind.wrap .i64 ((IntKind.wrap .i64 (x5 + n8)) - (1 : Int))) n11)))) x4 w10))
abbrev ref06_Need.p6 (L1 : Option Addr → Nat → Nat → Int → Int → Int → Int → Int → World → Prop) (L0 : Option Addr → Nat → Nat → Int → Int → World → Prop) (K : Value → World → Prop) (x0A : Option Addr) (x0n : Nat) (x0c : Nat) (x3 : Int) (x4 : Int) (x5 : Int) (x13 : Int) (x14 : Int) (x15 : Bool) (w : World) : Prop :=
  condP x15 (ref06_Need.p7 L1 L0 K x0A x0n x0c x3 x4 x5 x13 x14 w) (ref06_Need.p9 L0 K x0A x0n x0c x3 x4 x5 w)
abbrev ref06_Need.b1 (L1 : Option Addr → Nat → Nat → Int → Int → Int → Int → Int → World → Prop) (L0 : Option Addr → Nat → Nat → Int → Int → World → Prop) (K : Value → World → Prop) (x0A : Option Addr) (x0n : Nat) (x0c : Nat) (x3 : Int) (x4 : Int) (x5 : Int) (x13 : Int) (x14 : Int) (w : World) : Prop :=
  ref06_Need.p6 L1 L0 K x0A x0n x0c x3 x4 x5 x13 x14 (decide (x14 < x13)) w
def ref06_Need.l1 (L0 : Option Addr → Nat → Nat → Int → Int → World → Prop) (K : Value → World → Prop) (k : Nat) : Option Addr → Nat → Nat → Int → Int → Int → Int → Int → World → Prop :=
  Nat.rec (motive := fun _ => Option Addr → Nat → Nat → Int → Int → Int → Int → Int → World → Prop) (fun _ _ _ _ _ _ _ _ _ => False) (fun _ ih => ref06_Need.b1 ih L0 K) k
theorem ref06_Need.l1_succ (L0 : Option Addr → Nat → Nat → Int → Int → World → Prop) (K : Value → World → Prop) (k : Nat) (x0A : Option Addr) (x0n : Nat) (x0c : Nat) (x3 : Int) (x4 : Int) (x5 : Int) (x13 : Int) (x14 : Int) (w : World) : ref06_Need.l1 L0 K (k + 1) x0A x0n x0c x3 x4 x5 x13 x14 w = ref06_Need.b1 (ref06_Need.l1 L0 K k) L0 K x0A x0n x0c x3 x4 x5 x13 x14 w := rfl
abbrev ref06_Need.p5 (L0 : Option Addr → Nat → Nat → Int → Int → World → Prop) (K : Value → World → Prop) (x0A : Option Addr) (x0n : Nat) (x0c : Nat) (x3 : Int) (x4 : Int) (x5 : Int) (x13 : Int) (x14 : Int) (w : World) : Prop :=
  ∃ k, ref06_Need.l1 L0 K k x0A x0n x0c x3 x4 x5 x13 x14 w
abbrev ref06_Need.p4 (L0 : Option Addr → Nat → Nat → Int → Int → World → Prop) (K : Value → World → Prop) (x0A : Option Addr) (x0n : Nat) (x0c : Nat) (x3 : Int) (x4 : Int) (x5 : Int) (w : World) : Prop :=
  ref06_Need.p5 L0 K x0A x0n x0c x3 x4 x5 ((x0n : Nat) : Int) 0 w
abbrev ref06_Need.p3 (L0 : Option Addr → Nat → Nat → Int → Int → World → Prop) (K : Value → World → Prop) (x0A : Option Addr) (x0n : Nat) (x0c : Nat) (x3 : Int) (x4 : Int) (w : World) : Prop :=
  ref06_Need.p4 L0 K x0A x0n x0c x3 x4 0 w
abbrev ref06_Need.p15 (L2 : Option Addr → Nat → Nat → Int → Int → Int → World → Prop) (K : Value → World → Prop) (x0A : Option Addr) (x0n : Nat) (x0c : Nat) (x3 : Int) (x38 : Int) (x39 : Int) (w : World) : Prop :=
  L2 x0A x0n x0c x3 x38 (IntKind.wrap .i64 (x39 + (1 : Int))) w
abbrev ref06_Need.p14 (L2 : Option Addr → Nat → Nat → Int → Int → Int → World → Prop) (K : Value → World → Prop) (x0A : Option Addr) (x0n : Nat) (x0c : Nat) (x3 : Int) (x38 : Int) (x39 : Int) (w : World) : Prop :=
  (0 ≤ x39 ∧ x39 < ((x0n : Nat) : Int)) ∧ ∃ (a12 : Addr), x0A = some a12 ∧ ∃ (n13 : Int), w.cell? (a12.add x39.toNat) = some (.int .i64 n13) ∧ CallsE Try.prog 12 #[.int .i64 n13] w (fun v14 w15 => ∃ (n16 : Int), v14 = .int .i64 n16 ∧ condP (n16 == (7 : Int)) ((0 ≤ x39 ∧ x39 < ((x0n : Nat) : Int)) ∧ ∃ (a17 : Addr), x0A = some a17 ∧ ∃ (n18 : Int), w15.cell? (a17.add x39.toNat) = some (.int .i64 n18) ∧ CallsE Try.prog 18 #[.int .i64 n18] w15 (fun v19 w20 => ∃ (n21 : Int), v19 = .int .i64 n21 ∧ ref06_Need.p15 L2 K x0A x0n x0c (IntKind.wrap .i64 (x3 + n21)) x38 x39 w20)) (ref06_Need.p15 L2 K x0A x0n x0c x3 x38 x39 w15))
abbrev ref06_Need.p16 (K : Value → World → Prop) (x3 : Int) (w : World) : Prop :=
  K (.int .i64 x3) w
abbrev ref06_Need.p13 (L2 : Option Addr → Nat → Nat → Int → Int → Int → World → Prop) (K : Value → World → Prop) (x0A : Option Addr) (x0n : Nat) (x0c : Nat) (x3 : Int) (x38 : Int) (x39 : Int) (x40 : Bool) (w : World) : Prop :=
  condP x40 (ref06_Need.p14 L2 K x0A x0n x0c x3 x38 x39 w) (ref06_Need.p16 K x3 w)
abbrev ref06_Need.b2 (L2 : Option Addr → Nat → Nat → Int → Int → Int → World → Prop) (K : Value → World → Prop) (x0A : Option Addr) (x0n : Nat) (x0c : Nat) (x3 : Int) (x38 : Int) (x39 : Int) (w : World) : Prop :=
  ref06_Need.p13 L2 K x0A x0n x0c x3 x38 x39 (decide (x39 < x38)) w
def ref06_Need.l2 (K : Value → World → Prop) (k : Nat) : Option Addr → Nat → Nat → Int → Int → Int → World → Prop :=
  Nat.rec (motive := fun _ => Option Addr → Nat → Nat → Int → Int → Int → World → Prop) (fun _ _ _ _ _ _ _ => False) (fun _ ih => ref06_Need.b2 ih K) k
theorem ref06_Need.l2_succ (K : Value → World → Prop) (k : Nat) (x0A : Option Addr) (x0n : Nat) (x0c : Nat) (x3 : Int) (x38 : Int) (x39 : Int) (w : World) : ref06_Need.l2 K (k + 1) x0A x0n x0c x3 x38 x39 w = ref06_Need.b2 (ref06_Need.l2 K k) K x0A x0n x0c x3 x38 x39 w := rfl
abbrev ref06_Need.p12 (K : Value → World → Prop) (x0A : Option Addr) (x0n : Nat) (x0c : Nat) (x3 : Int) (x38 : Int) (x39 : Int) (w : World) : Prop :=
  ∃ k, ref06_Need.l2 K k x0A x0n x0c x3 x38 x39 w
abbrev ref06_Need.p11 (K : Value → World → Prop) (x0A : Option Addr) (x0n : Nat) (x0c : Nat) (x3 : Int) (w : World) : Prop :=
  ref06_Need.p12 K x0A x0n x0c x3 ((x0n : Nat) : Int) 0 w
abbrev ref06_Need.b0 (L0 : Option Addr → Nat → Nat → Int → Int → World → Prop) (K : Value → World → Prop) (x0A : Option Addr) (x0n : Nat) (x0c : Nat) (x3 : Int) (x4 : Int) (w : World) : Prop :=
  condP (decide (x4 < (7 : Int))) (ref06_Need.p3 L0 K x0A x0n x0c x3 x4 w) (ref06_Need.p11 K x0A x0n x0c x3 w)
def ref06_Need.l0 (K : Value → World → Prop) (k : Nat) : Option Addr → Nat → Nat → Int → Int → World → Prop :=
  Nat.rec (motive := fun _ => Option Addr → Nat → Nat → Int → Int → World → Prop) (fun _ _ _ _ _ _ => False) (fun _ ih => ref06_Need.b0 ih K) k
theorem ref06_Need.l0_succ (K : Value → World → Prop) (k : Nat) (x0A : Option Addr) (x0n : Nat) (x0c : Nat) (x3 : Int) (x4 : Int) (w : World) : ref06_Need.l0 K (k + 1) x0A x0n x0c x3 x4 w = ref06_Need.b0 (ref06_Need.l0 K k) K x0A x0n x0c x3 x4 w := rfl
abbrev ref06_Need.p2 (K : Value → World → Prop) (x0A : Option Addr) (x0n : Nat) (x0c : Nat) (x3 : Int) (x4 : Int) (w : World) : Prop :=
  ∃ k, ref06_Need.l0 K k x0A x0n x0c x3 x4 w
abbrev ref06_Need.p1 (K : Value → World → Prop) (x0A : Option Addr) (x0n : Nat) (x0c : Nat) (x3 : Int) (w : World) : Prop :=
  ref06_Need.p2 K x0A x0n x0c x3 0 w
abbrev ref06_Need.p0 (K : Value → World → Prop) (x0A : Option Addr) (x0n : Nat) (x0c : Nat) (w : World) : Prop :=
  ref06_Need.p1 K x0A x0n x0c 0 w
abbrev ref06_Need.F (q0A : Option Addr) (q0n : Nat) (q0c : Nat) (K : Value → World → Prop) (w : World) : Prop :=
  ref06_Need.p0 K q0A q0n q0c w
theorem ref06_Need.ok {q0A : Option Addr} {q0n : Nat} {q0c : Nat} {K : Value → World → Prop} {w : World} (h : ref06_Need.F q0A q0n q0c K w) :
    CallsE Try.prog 20 #[.slice q0A q0n q0c] w K := by
  refine calls_of_J (n := 57) (rs := [.tmp 2]) Try.func20 rfl rfl rfl rfl ?_
  refine J_seq (fun σ w => vS (σ 0) fun x0A x0n x0c => ref06_Need.p0 K x0A x0n x0c w) ?_ ?_
  ·
    exact sh_sound _ _ _ _ (Eq.mp (by kernel_rfl) h)
  · intro σ w h
    obtain ⟨x0A, x0n, x0c, e0, h⟩ := vS_elim h
    refine J.sub ?_ ((Sub.base _).upd e0)
    clear e0
    refine J_seq (fun σ w => vS (σ 0) fun x0A x0n x0c => vI .i64 (σ 3) fun x3 => ref06_Need.p1 K x0A x0n x0c x3 w) ?_ ?_
    ·
      exact sh_sound _ _ _ _ (Eq.mp (by kernel_rfl) h)
    · intro σ w h
      obtain ⟨x0A, x0n, x0c, e0, h⟩ := vS_elim h
      obtain ⟨x3, e3, h⟩ := vI_elim h
      refine J.sub ?_ (((Sub.base _).upd e0).upd e3)
      clear e0 e3
      refine J_seq (fun σ w => vS (σ 0) fun x0A x0n x0c => vI .i64 (σ 3) fun x3 => ref06_Need.p11 K x0A x0n x0c x3 w) ?_ ?_
      ·
        refine J_seq (fun σ w => vS (σ 0) fun x0A x0n x0c => vI .i64 (σ 3) fun x3 => vI .i64 (σ 4) fun x4 => ref06_Need.p2 K x0A x0n x0c x3 x4 w) ?_ ?_
        ·
          exact sh_sound _ _ _ _ (Eq.mp (by kernel_rfl) h)
        · intro σ w h
          obtain ⟨x0A, x0n, x0c, e0, h⟩ := vS_elim h
          obtain ⟨x3, e3, h⟩ := vI_elim h
          obtain ⟨x4, e4, h⟩ := vI_elim h
          refine J.sub ?_ ((((Sub.base _).upd e0).upd e3).upd e4)
          clear e0 e3 e4
          refine J_block ?_
          refine J_loop (fun k σ w => vS (σ 0) fun x0A x0n x0c => vI .i64 (σ 3) fun x3 => vI .i64 (σ 4) fun x4 => ref06_Need.l0 K k x0A x0n x0c x3 x4 w) (Eq.mp (by kernel_rfl) h) ?_ ?_
          · intro σ w h
            obtain ⟨x0A, x0n, x0c, e0, h⟩ := vS_elim h
            obtain ⟨x3, e3, h⟩ := vI_elim h
            obtain ⟨x4, e4, h⟩ := vI_elim h
            exact h
          · intro k0 σ w h
            obtain ⟨x0A, x0n, x0c, e0, h⟩ := vS_elim h
            obtain ⟨x3, e3, h⟩ := vI_elim h
            obtain ⟨x4, e4, h⟩ := vI_elim h
            refine J.sub ?_ ((((Sub.base _).upd e0).upd e3).upd e4)
            clear e0 e3 e4
            refine J_seq (fun σ w => vS (σ 0) fun x0A x0n x0c => vI .i64 (σ 3) fun x3 => vI .i64 (σ 4) fun x4 => ref06_Need.p3 (ref06_Need.l0 K k0) K x0A x0n x0c x3 x4 w) ?_ ?_
            ·
              exact sh_sound _ _ _ _ (Eq.mp (by kernel_rfl) h)
            · intro σ w h
              obtain ⟨x0A, x0n, x0c, e0, h⟩ := vS_elim h
              obtain ⟨x3, e3, h⟩ := vI_elim h
              obtain ⟨x4, e4, h⟩ := vI_elim h
              refine J.sub ?_ ((((Sub.base _).upd e0).upd e3).upd e4)
              clear e0 e3 e4
              refine J_seq (fun σ w => vS (σ 0) fun x0A x0n x0c => vI .i64 (σ 3) fun x3 => vI .i64 (σ 4) fun x4 => ref06_Need.p10 (ref06_Need.l0 K k0) K x0A x0n x0c x3 x4 w) ?_ ?_
              ·
                refine J_block ?_
                refine J_seq (fun σ w => vS (σ 0) fun x0A x0n x0c => vI .i64 (σ 3) fun x3 => vI .i64 (σ 4) fun x4 => vI .i64 (σ 5) fun x5 => ref06_Need.p4 (ref06_Need.l0 K k0) K x0A x0n x0c x3 x4 x5 w) ?_ ?_
                ·
                  exact sh_sound _ _ _ _ (Eq.mp (by kernel_rfl) h)
                · intro σ w h
                  obtain ⟨x0A, x0n, x0c, e0, h⟩ := vS_elim h
                  obtain ⟨x3, e3, h⟩ := vI_elim h
                  obtain ⟨x4, e4, h⟩ := vI_elim h
                  obtain ⟨x5, e5, h⟩ := vI_elim h
                  refine J.sub ?_ (((((Sub.base _).upd e0).upd e3).upd e4).upd e5)
                  clear e0 e3 e4 e5
                  refine J_seq (fun σ w => vS (σ 0) fun x0A x0n x0c => vI .i64 (σ 3) fun x3 => vI .i64 (σ 4) fun x4 => vI .i64 (σ 5) fun x5 => ref06_Need.p9 (ref06_Need.l0 K k0) K x0A x0n x0c x3 x4 x5 w) ?_ ?_
                  ·
                    refine J_seq (fun σ w => vS (σ 0) fun x0A x0n x0c => vI .i64 (σ 3) fun x3 => vI .i64 (σ 4) fun x4 => vI .i64 (σ 5) fun x5 => vI .i64 (σ 13) fun x13 => vI .i64 (σ 14) fun x14 => ref06_Need.p5 (ref06_Need.l0 K k0) K x0A x0n x0c x3 x4 x5 x13 x14 w) ?_ ?_
                    ·
                      exact sh_sound _ _ _ _ (Eq.mp (by kernel_rfl) h)
                    · intro σ w h
                      obtain ⟨x0A, x0n, x0c, e0, h⟩ := vS_elim h
                      obtain ⟨x3, e3, h⟩ := vI_elim h
                      obtain ⟨x4, e4, h⟩ := vI_elim h
                      obtain ⟨x5, e5, h⟩ := vI_elim h
                      obtain ⟨x13, e13, h⟩ := vI_elim h
                      obtain ⟨x14, e14, h⟩ := vI_elim h
                      refine J.sub ?_ (((((((Sub.base _).upd e0).upd e3).upd e4).upd e5).upd e13).upd e14)
                      clear e0 e3 e4 e5 e13 e14
                      refine J_block ?_
                      refine J_loop (fun k σ w => vS (σ 0) fun x0A x0n x0c => vI .i64 (σ 3) fun x3 => vI .i64 (σ 4) fun x4 => vI .i64 (σ 5) fun x5 => vI .i64 (σ 13) fun x13 => vI .i64 (σ 14) fun x14 => ref06_Need.l1 (ref06_Need.l0 K k0) K k x0A x0n x0c x3 x4 x5 x13 x14 w) (Eq.mp (by kernel_rfl) h) ?_ ?_
                      · intro σ w h
                        obtain ⟨x0A, x0n, x0c, e0, h⟩ := vS_elim h
                        obtain ⟨x3, e3, h⟩ := vI_elim h
                        obtain ⟨x4, e4, h⟩ := vI_elim h
                        obtain ⟨x5, e5, h⟩ := vI_elim h
                        obtain ⟨x13, e13, h⟩ := vI_elim h
                        obtain ⟨x14, e14, h⟩ := vI_elim h
                        exact h
                      · intro k1 σ w h
                        obtain ⟨x0A, x0n, x0c, e0, h⟩ := vS_elim h
                        obtain ⟨x3, e3, h⟩ := vI_elim h
                        obtain ⟨x4, e4, h⟩ := vI_elim h
                        obtain ⟨x5, e5, h⟩ := vI_elim h
                        obtain ⟨x13, e13, h⟩ := vI_elim h
                        obtain ⟨x14, e14, h⟩ := vI_elim h
                        refine J.sub ?_ (((((((Sub.base _).upd e0).upd e3).upd e4).upd e5).upd e13).upd e14)
                        clear e0 e3 e4 e5 e13 e14
                        refine J_seq (fun σ w => vS (σ 0) fun x0A x0n x0c => vI .i64 (σ 3) fun x3 => vI .i64 (σ 4) fun x4 => vI .i64 (σ 5) fun x5 => vI .i64 (σ 13) fun x13 => vI .i64 (σ 14) fun x14 => vB (σ 15) fun x15 => ref06_Need.p6 (ref06_Need.l1 (ref06_Need.l0 K k0) K k1) (ref06_Need.l0 K k0) K x0A x0n x0c x3 x4 x5 x13 x14 x15 w) ?_ ?_
                        ·
                          exact sh_sound _ _ _ _ (Eq.mp (by kernel_rfl) h)
                        · intro σ w h
                          obtain ⟨x0A, x0n, x0c, e0, h⟩ := vS_elim h
                          obtain ⟨x3, e3, h⟩ := vI_elim h
                          obtain ⟨x4, e4, h⟩ := vI_elim h
                          obtain ⟨x5, e5, h⟩ := vI_elim h
                          obtain ⟨x13, e13, h⟩ := vI_elim h
                          obtain ⟨x14, e14, h⟩ := vI_elim h
                          obtain ⟨x15, e15, h⟩ := vB_elim h
                          refine J.sub ?_ ((((((((Sub.base _).upd e0).upd e3).upd e4).upd e5).upd e13).upd e14).upd e15)
                          clear e0 e3 e4 e5 e13 e14 e15
                          refine J_seq (fun σ w => vS (σ 0) fun x0A x0n x0c => vI .i64 (σ 3) fun x3 => vI .i64 (σ 4) fun x4 => vI .i64 (σ 5) fun x5 => vI .i64 (σ 13) fun x13 => vI .i64 (σ 14) fun x14 => ref06_Need.p7 (ref06_Need.l1 (ref06_Need.l0 K k0) K k1) (ref06_Need.l0 K k0) K x0A x0n x0c x3 x4 x5 x13 x14 w) ?_ ?_
                          ·
                            exact sh_sound _ _ _ _ (Eq.mp (by kernel_rfl) h)
                          · intro σ w h
                            obtain ⟨x0A, x0n, x0c, e0, h⟩ := vS_elim h
                            obtain ⟨x3, e3, h⟩ := vI_elim h
                            obtain ⟨x4, e4, h⟩ := vI_elim h
                            obtain ⟨x5, e5, h⟩ := vI_elim h
                            obtain ⟨x13, e13, h⟩ := vI_elim h
                            obtain ⟨x14, e14, h⟩ := vI_elim h
                            refine J.sub ?_ (((((((Sub.base _).upd e0).upd e3).upd e4).upd e5).upd e13).upd e14)
                            clear e0 e3 e4 e5 e13 e14
                            refine J_seq (fun σ w => vS (σ 0) fun x0A x0n x0c => vI .i64 (σ 3) fun x3 => vI .i64 (σ 4) fun x4 => vI .i64 (σ 5) fun x5 => vI .i64 (σ 13) fun x13 => vI .i64 (σ 14) fun x14 => ref06_Need.p8 (ref06_Need.l1 (ref06_Need.l0 K k0) K k1) (ref06_Need.l0 K k0) K x0A x0n x0c x3 x4 x5 x13 x14 w) ?_ ?_
                            ·
                              exact sh_sound _ _ _ _ (Eq.mp (by kernel_rfl) h)
                            · intro σ w h
                              obtain ⟨x0A, x0n, x0c, e0, h⟩ := vS_elim h
                              obtain ⟨x3, e3, h⟩ := vI_elim h
                              obtain ⟨x4, e4, h⟩ := vI_elim h
                              obtain ⟨x5, e5, h⟩ := vI_elim h
                              obtain ⟨x13, e13, h⟩ := vI_elim h
                              obtain ⟨x14, e14, h⟩ := vI_elim h
                              refine J.sub ?_ (((((((Sub.base _).upd e0).upd e3).upd e4).upd e5).upd e13).upd e14)
                              clear e0 e3 e4 e5 e13 e14
                              exact sh_sound _ _ _ _ (Eq.mp (by kernel_rfl) h)
                  · intro σ w h
                    obtain ⟨x0A, x0n, x0c, e0, h⟩ := vS_elim h
                    obtain ⟨x3, e3, h⟩ := vI_elim h
                    obtain ⟨x4, e4, h⟩ := vI_elim h
                    obtain ⟨x5, e5, h⟩ := vI_elim h
                    refine J.sub ?_ (((((Sub.base _).upd e0).upd e3).upd e4).upd e5)
                    clear e0 e3 e4 e5
                    exact sh_sound _ _ _ _ (Eq.mp (by kernel_rfl) h)
              · intro σ w h
                obtain ⟨x0A, x0n, x0c, e0, h⟩ := vS_elim h
                obtain ⟨x3, e3, h⟩ := vI_elim h
                obtain ⟨x4, e4, h⟩ := vI_elim h
                refine J.sub ?_ ((((Sub.base _).upd e0).upd e3).upd e4)
                clear e0 e3 e4
                exact sh_sound _ _ _ _ (Eq.mp (by kernel_rfl) h)
      · intro σ w h
        obtain ⟨x0A, x0n, x0c, e0, h⟩ := vS_elim h
        obtain ⟨x3, e3, h⟩ := vI_elim h
        refine J.sub ?_ (((Sub.base _).upd e0).upd e3)
        clear e0 e3
        refine J_seq (fun σ w => vI .i64 (σ 3) fun x3 => ref06_Need.p16 K x3 w) ?_ ?_
        ·
          refine J_seq (fun σ w => vS (σ 0) fun x0A x0n x0c => vI .i64 (σ 3) fun x3 => vI .i64 (σ 38) fun x38 => vI .i64 (σ 39) fun x39 => ref06_Need.p12 K x0A x0n x0c x3 x38 x39 w) ?_ ?_
          ·
            exact sh_sound _ _ _ _ (Eq.mp (by kernel_rfl) h)
          · intro σ w h
            obtain ⟨x0A, x0n, x0c, e0, h⟩ := vS_elim h
            obtain ⟨x3, e3, h⟩ := vI_elim h
            obtain ⟨x38, e38, h⟩ := vI_elim h
            obtain ⟨x39, e39, h⟩ := vI_elim h
            refine J.sub ?_ (((((Sub.base _).upd e0).upd e3).upd e38).upd e39)
            clear e0 e3 e38 e39
            refine J_block ?_
            refine J_loop (fun k σ w => vS (σ 0) fun x0A x0n x0c => vI .i64 (σ 3) fun x3 => vI .i64 (σ 38) fun x38 => vI .i64 (σ 39) fun x39 => ref06_Need.l2 K k x0A x0n x0c x3 x38 x39 w) (Eq.mp (by kernel_rfl) h) ?_ ?_
            · intro σ w h
              obtain ⟨x0A, x0n, x0c, e0, h⟩ := vS_elim h
              obtain ⟨x3, e3, h⟩ := vI_elim h
              obtain ⟨x38, e38, h⟩ := vI_elim h
              obtain ⟨x39, e39, h⟩ := vI_elim h
              exact h
            · intro k2 σ w h
              obtain ⟨x0A, x0n, x0c, e0, h⟩ := vS_elim h
              obtain ⟨x3, e3, h⟩ := vI_elim h
              obtain ⟨x38, e38, h⟩ := vI_elim h
              obtain ⟨x39, e39, h⟩ := vI_elim h
              refine J.sub ?_ (((((Sub.base _).upd e0).upd e3).upd e38).upd e39)
              clear e0 e3 e38 e39
              refine J_seq (fun σ w => vS (σ 0) fun x0A x0n x0c => vI .i64 (σ 3) fun x3 => vI .i64 (σ 38) fun x38 => vI .i64 (σ 39) fun x39 => vB (σ 40) fun x40 => ref06_Need.p13 (ref06_Need.l2 K k2) K x0A x0n x0c x3 x38 x39 x40 w) ?_ ?_
              ·
                exact sh_sound _ _ _ _ (Eq.mp (by kernel_rfl) h)
              · intro σ w h
                obtain ⟨x0A, x0n, x0c, e0, h⟩ := vS_elim h
                obtain ⟨x3, e3, h⟩ := vI_elim h
                obtain ⟨x38, e38, h⟩ := vI_elim h
                obtain ⟨x39, e39, h⟩ := vI_elim h
                obtain ⟨x40, e40, h⟩ := vB_elim h
                refine J.sub ?_ ((((((Sub.base _).upd e0).upd e3).upd e38).upd e39).upd e40)
                clear e0 e3 e38 e39 e40
                refine J_seq (fun σ w => vS (σ 0) fun x0A x0n x0c => vI .i64 (σ 3) fun x3 => vI .i64 (σ 38) fun x38 => vI .i64 (σ 39) fun x39 => ref06_Need.p14 (ref06_Need.l2 K k2) K x0A x0n x0c x3 x38 x39 w) ?_ ?_
                ·
                  exact sh_sound _ _ _ _ (Eq.mp (by kernel_rfl) h)
                · intro σ w h
                  obtain ⟨x0A, x0n, x0c, e0, h⟩ := vS_elim h
                  obtain ⟨x3, e3, h⟩ := vI_elim h
                  obtain ⟨x38, e38, h⟩ := vI_elim h
                  obtain ⟨x39, e39, h⟩ := vI_elim h
                  refine J.sub ?_ (((((Sub.base _).upd e0).upd e3).upd e38).upd e39)
                  clear e0 e3 e38 e39
                  refine J_seq (fun σ w => vS (σ 0) fun x0A x0n x0c => vI .i64 (σ 3) fun x3 => vI .i64 (σ 38) fun x38 => vI .i64 (σ 39) fun x39 => ref06_Need.p15 (ref06_Need.l2 K k2) K x0A x0n x0c x3 x38 x39 w) ?_ ?_
                  ·
                    exact sh_sound _ _ _ _ (Eq.mp (by kernel_rfl) h)
                  · intro σ w h
                    obtain ⟨x0A, x0n, x0c, e0, h⟩ := vS_elim h
                    obtain ⟨x3, e3, h⟩ := vI_elim h
                    obtain ⟨x38, e38, h⟩ := vI_elim h
                    obtain ⟨x39, e39, h⟩ := vI_elim h
                    refine J.sub ?_ (((((Sub.base _).upd e0).upd e3).upd e38).upd e39)
                    clear e0 e3 e38 e39
                    exact sh_sound _ _ _ _ (Eq.mp (by kernel_rfl) h)
        · intro σ w h
          obtain ⟨x3, e3, h⟩ := vI_elim h
          refine J.sub ?_ ((Sub.base _).upd e3)
          clear e3
          exact sh_sound _ _ _ _ (Eq.mp (by kernel_rfl) h)

end Go.Proofs.Ytemcmkhkbbjehaa.F
