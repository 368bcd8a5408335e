/-
  Printed by a program: for each Go function a proposition that says what it comes to, and the proof that the code comes to it. No condition beyond what each theorem states.
-/
import Derived.Test.YtmjbnhleakakaaaDoorFa
set_option linter.unusedVariables false
set_option maxRecDepth 100000
namespace Go.Proofs.YtmjbnhleakakaaaDoor.F
open Go Go.RowKit Go.Proofs.YtmjbnhleakakaaaDoor Go.Proofs.YtmjbnhleakakaaaDoor.Sh

/-! ### (*hayloft/set.Set).next: function 57 -/
abbrev set_Set_next.p2 (K : Value → World → Prop) (w : World) : Prop :=
  K (.int .i64 (-1)) w
abbrev set_Set_next.b0 (L0 : Option Addr → Int → Int → World → Prop) (K : Value → World → Prop) (x0 : Option Addr) (x1 : Int) (x2 : Int) (w : World) : Prop :=
  CallsE Tryd.prog 54 #[.pointer x0] w (fun v1 w2 => ∃ (n3 : Int), v1 = .int .i64 n3 ∧ condP (decide (x1 < n3)) (∃ (a4 : Addr), x0 = some a4 ∧ ∃ (A5 : Option Addr) (m6 : Nat) (c7 : Nat), w2.cell? (a4.add 1) = some (.slice A5 m6 c7) ∧ (64 : Int) ≠ 0 ∧ (0 ≤ (IntKind.wrap .i64 (Int.tdiv x1 64)) ∧ (IntKind.wrap .i64 (Int.tdiv x1 64)) < ((m6 : Nat) : Int)) ∧ ∃ (a8 : Addr), A5 = some a8 ∧ ∃ (n9 : Int), w2.cell? (a8.add ((IntKind.wrap .i64 (Int.tdiv x1 64)).toNat)) = some (.int .u64 n9) ∧ (64 : Int) ≠ 0 ∧ 0 ≤ (Int.tmod x1 64) ∧ condP ((ishr .u64 (ibits .xor .u64 n9 x2) (Int.tmod x1 64)) != (0 : Int)) (CallsE Tryd.prog 59 #[.int .u64 (ishr .u64 (ibits .xor .u64 n9 x2) (Int.tmod x1 64))] w2 (fun v10 w11 => ∃ (n12 : Int), v10 = .int .i64 n12 ∧ ∃ (a13 : Addr), x0 = some a13 ∧ ∃ (n14 : Int), w11.cell? a13 = some (.int .i64 n14) ∧ condP (decide ((IntKind.wrap .i64 (x1 + n12)) < n14)) (K (.int .i64 (IntKind.wrap .i64 (x1 + n12))) w11) (K (.int .i64 (-1)) w11))) ((64 : Int) ≠ 0 ∧ L0 x0 (IntKind.wrap .i64 ((IntKind.wrap .i64 ((IntKind.wrap .i64 (Int.tdiv x1 64)) * (64 : Int))) + (64 : Int))) x2 w2)) (set_Set_next.p2 K w2))
def set_Set_next.l0 (K : Value → World → Prop) (k : Nat) : Option Addr → Int → Int → World → Prop :=
  Nat.rec (motive := fun _ => Option Addr → Int → Int → World → Prop) (fun _ _ _ _ => False) (fun _ ih => set_Set_next.b0 ih K) k
theorem set_Set_next.l0_succ (K : Value → World → Prop) (k : Nat) (x0 : Option Addr) (x1 : Int) (x2 : Int) (w : World) : set_Set_next.l0 K (k + 1) x0 x1 x2 w = set_Set_next.b0 (set_Set_next.l0 K k) K x0 x1 x2 w := rfl
abbrev set_Set_next.p1 (K : Value → World → Prop) (x0 : Option Addr) (x1 : Int) (x2 : Int) (w : World) : Prop :=
  ∃ k, set_Set_next.l0 K k x0 x1 x2 w
abbrev set_Set_next.p0 (K : Value → World → Prop) (x0 : Option Addr) (x1 : Int) (x2 : Int) (w : World) : Prop :=
  set_Set_next.p1 K x0 (imax 0 x1) x2 w
abbrev set_Set_next.F (q0 : Option Addr) (q1 : Int) (q2 : Int) (K : Value → World → Prop) (w : World) : Prop :=
  set_Set_next.p0 K q0 q1 q2 w
theorem set_Set_next.ok {q0 : Option Addr} {q1 : Int} {q2 : Int} {K : Value → World → Prop} {w : World} (h : set_Set_next.F q0 q1 q2 K w) :
    CallsE Tryd.prog 57 #[.pointer q0, .int .i64 q1, .int .u64 q2] w K := by
  refine calls_of_J (n := 45) (rs := [.tmp 6]) Tryd.func57 rfl rfl rfl rfl ?_
  refine J_seq (fun σ w => vP (σ 0) fun x0 => vI .i64 (σ 1) fun x1 => vI .u64 (σ 2) fun x2 => set_Set_next.p0 K x0 x1 x2 w) ?_ ?_
  ·
    exact sh_sound _ _ _ _ (Eq.mp (by kernel_rfl) h)
  · intro σ w h
    obtain ⟨x0, e0, h⟩ := vP_elim h
    obtain ⟨x1, e1, h⟩ := vI_elim h
    obtain ⟨x2, e2, h⟩ := vI_elim h
    refine J.sub ?_ ((((Sub.base _).upd e0).upd e1).upd e2)
    clear e0 e1 e2
    refine J_seq (fun σ w => vP (σ 0) fun x0 => vI .i64 (σ 1) fun x1 => vI .u64 (σ 2) fun x2 => set_Set_next.p1 K x0 x1 x2 w) ?_ ?_
    ·
      exact sh_sound _ _ _ _ (Eq.mp (by kernel_rfl) h)
    · intro σ w h
      obtain ⟨x0, e0, h⟩ := vP_elim h
      obtain ⟨x1, e1, h⟩ := vI_elim h
      obtain ⟨x2, e2, h⟩ := vI_elim h
      refine J.sub ?_ ((((Sub.base _).upd e0).upd e1).upd e2)
      clear e0 e1 e2
      refine J_seq (fun σ w => set_Set_next.p2 K w) ?_ ?_
      ·
        refine J_block ?_
        refine J_loop (fun k σ w => vP (σ 0) fun x0 => vI .i64 (σ 1) fun x1 => vI .u64 (σ 2) fun x2 => set_Set_next.l0 K k x0 x1 x2 w) (Eq.mp (by kernel_rfl) h) ?_ ?_
        · intro σ w h
          obtain ⟨x0, e0, h⟩ := vP_elim h
          obtain ⟨x1, e1, h⟩ := vI_elim h
          obtain ⟨x2, e2, h⟩ := vI_elim h
          exact h
        · intro k0 σ w h
          obtain ⟨x0, e0, h⟩ := vP_elim h
          obtain ⟨x1, e1, h⟩ := vI_elim h
          obtain ⟨x2, e2, h⟩ := vI_elim h
          refine J.sub ?_ ((((Sub.base _).upd e0).upd e1).upd e2)
          clear e0 e1 e2
          exact sh_sound _ _ _ _ (Eq.mp (by kernel_rfl) h)
      · intro σ w h
        refine J.sub ?_ (Sub.base _)
        exact sh_sound _ _ _ _ (Eq.mp (by kernel_rfl) h)

/-! ### (*hayloft/set.Set).Count: function 58 -/
abbrev set_Set_Count.p4 (K : Value → World → Prop) (x3 : Int) (w : World) : Prop :=
  K (.int .i64 x3) w
abbrev set_Set_Count.b0 (L0 : Int → Option Addr → Nat → Nat → Int → Int → World → Prop) (K : Value → World → Prop) (x3 : Int) (x11A : Option Addr) (x11n : Nat) (x11c : Nat) (x12 : Int) (x13 : Int) (w : World) : Prop :=
  condP (decide (x13 < x12)) ((0 ≤ x13 ∧ x13 < ((x11n : Nat) : Int)) ∧ ∃ (a5 : Addr), x11A = some a5 ∧ ∃ (n6 : Int), w.cell? (a5.add x13.toNat) = some (.int .u64 n6) ∧ CallsE Tryd.prog 60 #[.int .u64 n6] w (fun v7 w8 => ∃ (n9 : Int), v7 = .int .i64 n9 ∧ L0 (IntKind.wrap .i64 (x3 + n9)) x11A x11n x11c x12 (IntKind.wrap .i64 (x13 + (1 : Int))) w8)) (set_Set_Count.p4 K x3 w)
def set_Set_Count.l0 (K : Value → World → Prop) (k : Nat) : Int → Option Addr → Nat → Nat → Int → Int → World → Prop :=
  Nat.rec (motive := fun _ => Int → Option Addr → Nat → Nat → Int → Int → World → Prop) (fun _ _ _ _ _ _ _ => False) (fun _ ih => set_Set_Count.b0 ih K) k
theorem set_Set_Count.l0_succ (K : Value → World → Prop) (k : Nat) (x3 : Int) (x11A : Option Addr) (x11n : Nat) (x11c : Nat) (x12 : Int) (x13 : Int) (w : World) : set_Set_Count.l0 K (k + 1) x3 x11A x11n x11c x12 x13 w = set_Set_Count.b0 (set_Set_Count.l0 K k) K x3 x11A x11n x11c x12 x13 w := rfl
abbrev set_Set_Count.p3 (K : Value → World → Prop) (x3 : Int) (x11A : Option Addr) (x11n : Nat) (x11c : Nat) (x12 : Int) (x13 : Int) (w : World) : Prop :=
  ∃ k, set_Set_Count.l0 K k x3 x11A x11n x11c x12 x13 w
abbrev set_Set_Count.p2 (K : Value → World → Prop) (x0 : Option Addr) (x3 : Int) (w : World) : Prop :=
  ∃ (a1 : Addr), x0 = some a1 ∧ ∃ (A2 : Option Addr) (m3 : Nat) (c4 : Nat), w.cell? (a1.add 1) = some (.slice A2 m3 c4) ∧ set_Set_Count.p3 K x3 A2 m3 c4 ((m3 : Nat) : Int) 0 w
abbrev set_Set_Count.p1 (K : Value → World → Prop) (x0 : Option Addr) (w : World) : Prop :=
  set_Set_Count.p2 K x0 0 w
abbrev set_Set_Count.p0 (K : Value → World → Prop) (x0 : Option Addr) (w : World) : Prop :=
  condP x0.isNone (K (.int .i64 0) w) (set_Set_Count.p1 K x0 w)
abbrev set_Set_Count.F (q0 : Option Addr) (K : Value → World → Prop) (w : World) : Prop :=
  set_Set_Count.p0 K q0 w
theorem set_Set_Count.ok {q0 : Option Addr} {K : Value → World → Prop} {w : World} (h : set_Set_Count.F q0 K w) :
    CallsE Tryd.prog 58 #[.pointer q0] w K := by
  refine calls_of_J (n := 23) (rs := [.tmp 2]) Tryd.func58 rfl rfl rfl rfl ?_
  refine J_seq (fun σ w => vP (σ 0) fun x0 => set_Set_Count.p0 K x0 w) ?_ ?_
  ·
    exact sh_sound _ _ _ _ (Eq.mp (by kernel_rfl) h)
  · intro σ w h
    obtain ⟨x0, e0, h⟩ := vP_elim h
    refine J.sub ?_ ((Sub.base _).upd e0)
    clear e0
    refine J_seq (fun σ w => vP (σ 0) fun x0 => set_Set_Count.p1 K x0 w) ?_ ?_
    ·
      exact sh_sound _ _ _ _ (Eq.mp (by kernel_rfl) h)
    · intro σ w h
      obtain ⟨x0, e0, h⟩ := vP_elim h
      refine J.sub ?_ ((Sub.base _).upd e0)
      clear e0
      refine J_seq (fun σ w => vP (σ 0) fun x0 => vI .i64 (σ 3) fun x3 => set_Set_Count.p2 K x0 x3 w) ?_ ?_
      ·
        exact sh_sound _ _ _ _ (Eq.mp (by kernel_rfl) h)
      · intro σ w h
        obtain ⟨x0, e0, h⟩ := vP_elim h
        obtain ⟨x3, e3, h⟩ := vI_elim h
        refine J.sub ?_ (((Sub.base _).upd e0).upd e3)
        clear e0 e3
        refine J_seq (fun σ w => vI .i64 (σ 3) fun x3 => set_Set_Count.p4 K x3 w) ?_ ?_
        ·
          refine J_seq (fun σ w => vI .i64 (σ 3) fun x3 => vS (σ 11) fun x11A x11n x11c => vI .i64 (σ 12) fun x12 => vI .i64 (σ 13) fun x13 => set_Set_Count.p3 K x3 x11A x11n x11c x12 x13 w) ?_ ?_
          ·
            exact sh_sound _ _ _ _ (Eq.mp (by kernel_rfl) h)
          · intro σ w h
            obtain ⟨x3, e3, h⟩ := vI_elim h
            obtain ⟨x11A, x11n, x11c, e11, h⟩ := vS_elim h
            obtain ⟨x12, e12, h⟩ := vI_elim h
            obtain ⟨x13, e13, h⟩ := vI_elim h
            refine J.sub ?_ (((((Sub.base _).upd e3).upd e11).upd e12).upd e13)
            clear e3 e11 e12 e13
            refine J_block ?_
            refine J_loop (fun k σ w => vI .i64 (σ 3) fun x3 => vS (σ 11) fun x11A x11n x11c => vI .i64 (σ 12) fun x12 => vI .i64 (σ 13) fun x13 => set_Set_Count.l0 K k x3 x11A x11n x11c x12 x13 w) (Eq.mp (by kernel_rfl) h) ?_ ?_
            · intro σ w h
              obtain ⟨x3, e3, h⟩ := vI_elim h
              obtain ⟨x11A, x11n, x11c, e11, h⟩ := vS_elim h
              obtain ⟨x12, e12, h⟩ := vI_elim h
              obtain ⟨x13, e13, h⟩ := vI_elim h
              exact h
            · intro k0 σ w h
              obtain ⟨x3, e3, h⟩ := vI_elim h
              obtain ⟨x11A, x11n, x11c, e11, h⟩ := vS_elim h
              obtain ⟨x12, e12, h⟩ := vI_elim h
              obtain ⟨x13, e13, h⟩ := vI_elim h
              refine J.sub ?_ (((((Sub.base _).upd e3).upd e11).upd e12).upd e13)
              clear e3 e11 e12 e13
              exact sh_sound _ _ _ _ (Eq.mp (by kernel_rfl) h)
        · intro σ w h
          obtain ⟨x3, e3, h⟩ := vI_elim h
          refine J.sub ?_ ((Sub.base _).upd e3)
          clear e3
          exact sh_sound _ _ _ _ (Eq.mp (by kernel_rfl) h)

/-! ### math/bits.TrailingZeros64: function 59 -/
abbrev math_bits_TrailingZeros64.F (q0 : Int) (K : Value → World → Prop) (w : World) : Prop :=
  condP (q0 == (0 : Int)) (K (.int .i64 64) w) (0 ≤ (58 : Int) ∧ (0 ≤ (ishr .u64 (IntKind.wrap .u64 ((ibits .and .u64 q0 (IntKind.wrap .u64 (0 - q0))) * (285870213051353865 : Int))) 58) ∧ (ishr .u64 (IntKind.wrap .u64 ((ibits .and .u64 q0 (IntKind.wrap .u64 (0 - q0))) * (285870213051353865 : Int))) 58) < ((64 : Nat) : Int)) ∧ ∃ (n1 : Int), w.cell? ((⟨0, 0, none⟩ : Addr).add (idxN (ishr .u64 (IntKind.wrap .u64 ((ibits .and .u64 q0 (IntKind.wrap .u64 (0 - q0))) * (285870213051353865 : Int))) 58) 1)) = some (.int .u8 n1) ∧ K (.int .i64 (IntKind.wrap .i64 n1)) w)
theorem math_bits_TrailingZeros64.ok {q0 : Int} {K : Value → World → Prop} {w : World} (h : math_bits_TrailingZeros64.F q0 K w) :
    CallsE Tryd.prog 59 #[.int .u64 q0] w K := by
  refine calls_of_J (n := 14) (rs := [.tmp 2]) Tryd.func59 rfl rfl rfl rfl ?_
  exact sh_sound _ _ _ _ (Eq.mp (by kernel_rfl) h)

/-! ### math/bits.OnesCount64: function 60 -/
abbrev math_bits_OnesCount64.F (q0 : Int) (K : Value → World → Prop) (w : World) : Prop :=
  0 ≤ (1 : Int) ∧ 0 ≤ (2 : Int) ∧ 0 ≤ (4 : Int) ∧ 0 ≤ (8 : Int) ∧ 0 ≤ (16 : Int) ∧ 0 ≤ (32 : Int) ∧ K (.int .i64 (ibits .and .i64 (IntKind.wrap .i64 (IntKind.wrap .u64 ((IntKind.wrap .u64 ((IntKind.wrap .u64 ((ibits .and .u64 (IntKind.wrap .u64 ((ishr .u64 (IntKind.wrap .u64 ((ibits .and .u64 (ishr .u64 (IntKind.wrap .u64 ((ibits .and .u64 (ishr .u64 q0 1) 6148914691236517205) + (ibits .and .u64 q0 6148914691236517205))) 2) 3689348814741910323) + (ibits .and .u64 (IntKind.wrap .u64 ((ibits .and .u64 (ishr .u64 q0 1) 6148914691236517205) + (ibits .and .u64 q0 6148914691236517205))) 3689348814741910323))) 4) + (IntKind.wrap .u64 ((ibits .and .u64 (ishr .u64 (IntKind.wrap .u64 ((ibits .and .u64 (ishr .u64 q0 1) 6148914691236517205) + (ibits .and .u64 q0 6148914691236517205))) 2) 3689348814741910323) + (ibits .and .u64 (IntKind.wrap .u64 ((ibits .and .u64 (ishr .u64 q0 1) 6148914691236517205) + (ibits .and .u64 q0 6148914691236517205))) 3689348814741910323))))) 1085102592571150095) + (ishr .u64 (ibits .and .u64 (IntKind.wrap .u64 ((ishr .u64 (IntKind.wrap .u64 ((ibits .and .u64 (ishr .u64 (IntKind.wrap .u64 ((ibits .and .u64 (ishr .u64 q0 1) 6148914691236517205) + (ibits .and .u64 q0 6148914691236517205))) 2) 3689348814741910323) + (ibits .and .u64 (IntKind.wrap .u64 ((ibits .and .u64 (ishr .u64 q0 1) 6148914691236517205) + (ibits .and .u64 q0 6148914691236517205))) 3689348814741910323))) 4) + (IntKind.wrap .u64 ((ibits .and .u64 (ishr .u64 (IntKind.wrap .u64 ((ibits .and .u64 (ishr .u64 q0 1) 6148914691236517205) + (ibits .and .u64 q0 6148914691236517205))) 2) 3689348814741910323) + (ibits .and .u64 (IntKind.wrap .u64 ((ibits .and .u64 (ishr .u64 q0 1) 6148914691236517205) + (ibits .and .u64 q0 6148914691236517205))) 3689348814741910323))))) 1085102592571150095) 8))) + (ishr .u64 (IntKind.wrap .u64 ((ibits .and .u64 (IntKind.wrap .u64 ((ishr .u64 (IntKind.wrap .u64 ((ibits .and .u64 (ishr .u64 (IntKind.wrap .u64 ((ibits .and .u64 (ishr .u64 q0 1) 6148914691236517205) + (ibits .and .u64 q0 6148914691236517205))) 2) 3689348814741910323) + (ibits .and .u64 (IntKind.wrap .u64 ((ibits .and .u64 (ishr .u64 q0 1) 6148914691236517205) + (ibits .and .u64 q0 6148914691236517205))) 3689348814741910323))) 4) + (IntKind.wrap .u64 ((ibits .and .u64 (ishr .u64 (IntKind.wrap .u64 ((ibits .and .u64 (ishr .u64 q0 1) 6148914691236517205) + (ibits .and .u64 q0 6148914691236517205))) 2) 3689348814741910323) + (ibits .and .u64 (IntKind.wrap .u64 ((ibits .and .u64 (ishr .u64 q0 1) 6148914691236517205) + (ibits .and .u64 q0 6148914691236517205))) 3689348814741910323))))) 1085102592571150095) + (ishr .u64 (ibits .and .u64 (IntKind.wrap .u64 ((ishr .u64 (IntKind.wrap .u64 ((ibits .and .u64 (ishr .u64 (IntKind.wrap .u64 ((ibits .and .u64 (ishr .u64 q0 1) 6148914691236517205) + (ibits .and .u64 q0 6148914691236517205))) 2) 3689348814741910323) + (ibits .and .u64 (IntKind.wrap .u64 ((ibits .and .u64 (ishr .u64 q0 1) 6148914691236517205) + (ibits .and .u64 q0 6148914691236517205))) 3689348814741910323))) 4) + (IntKind.wrap .u64 ((ibits .and .u64 (ishr .u64 (IntKind.wrap .u64 ((ibits .and .u64 (ishr .u64 q0 1) 6148914691236517205) + (ibits .and .u64 q0 6148914691236517205))) 2) 3689348814741910323) + (ibits .and .u64 (IntKind.wrap .u64 ((ibits .and .u64 (ishr .u64 q0 1) 6148914691236517205) + (ibits .and .u64 q0 6148914691236517205))) 3689348814741910323))))) 1085102592571150095) 8))) 16))) + (ishr .u64 (IntKind.wrap .u64 ((IntKind.wrap .u64 ((ibits .and .u64 (IntKind.wrap .u64 ((ishr .u64 (IntKind.wrap .u64 ((ibits .and .u64 (ishr .u64 (IntKind.wrap .u64 ((ibits .and .u64 (ishr .u64 q0 1) 6148914691236517205) + (ibits .and .u64 q0 6148914691236517205))) 2) 3689348814741910323) + (ibits .and .u64 (IntKind.wrap .u64 ((ibits .and .u64 (ishr .u64 q0 1) 6148914691236517205) + (ibits .and .u64 q0 6148914691236517205))) 3689348814741910323))) 4) + (IntKind.wrap .u64 ((ibits .and .u64 (ishr .u64 (IntKind.wrap .u64 ((ibits .and .u64 (ishr .u64 q0 1) 6148914691236517205) + (ibits .and .u64 q0 6148914691236517205))) 2) 3689348814741910323) + (ibits .and .u64 (IntKind.wrap .u64 ((ibits .and .u64 (ishr .u64 q0 1) 6148914691236517205) + (ibits .and .u64 q0 6148914691236517205))) 3689348814741910323))))) 1085102592571150095) + (ishr .u64 (ibits .and .u64 (IntKind.wrap .u64 ((ishr .u64 (IntKind.wrap .u64 ((ibits .and .u64 (ishr .u64 (IntKind.wrap .u64 ((ibits .and .u64 (ishr .u64 q0 1) 6148914691236517205) + (ibits .and .u64 q0 6148914691236517205))) 2) 3689348814741910323) + (ibits .and .u64 (IntKind.wrap .u64 ((ibits .and .u64 (ishr .u64 q0 1) 6148914691236517205) + (ibits .and .u64 q0 6148914691236517205))) 3689348814741910323))) 4) + (IntKind.wrap .u64 ((ibits .and .u64 (ishr .u64 (IntKind.wrap .u64 ((ibits .and .u64 (ishr .u64 q0 1) 6148914691236517205) + (ibits .and .u64 q0 6148914691236517205))) 2) 3689348814741910323) + (ibits .and .u64 (IntKind.wrap .u64 ((ibits .and .u64 (ishr .u64 q0 1) 6148914691236517205) + (ibits .and .u64 q0 6148914691236517205))) 3689348814741910323))))) 1085102592571150095) 8))) + (ishr .u64 (IntKind.wrap .u64 ((ibits .and .u64 (IntKind.wrap .u64 ((ishr .u64 (IntKind.wrap .u64 ((ibits .and .u64 (ishr .u64 (IntKind.wrap .u64 ((ibits .and .u64 (ishr .u64 q0 1) 6148914691236517205) + (ibits .and .u64 q0 6148914691236517205))) 2) 3689348814741910323) + (ibits .and .u64 (IntKind.wrap .u64 ((ibits .and .u64 (ishr .u64 q0 1) 6148914691236517205) + (ibits .and .u64 q0 6148914691236517205))) 3689348814741910323))) 4) + (IntKind.wrap .u64 ((ibits .and .u64 (ishr .u64 (IntKind.wrap .u64 ((ibits .and .u64 (ishr .u64 q0 1) 6148914691236517205) + (ibits .and .u64 q0 6148914691236517205))) 2) 3689348814741910323) + (ibits .and .u64 (IntKind.wrap .u64 ((ibits .and .u64 (ishr .u64 q0 1) 6148914691236517205) + (ibits .and .u64 q0 6148914691236517205))) 3689348814741910323))))) 1085102592571150095) + (ishr .u64 (ibits .and .u64 (IntKind.wrap .u64 ((ishr .u64 (IntKind.wrap .u64 ((ibits .and .u64 (ishr .u64 (IntKind.wrap .u64 ((ibits .and .u64 (ishr .u64 q0 1) 6148914691236517205) + (ibits .and .u64 q0 6148914691236517205))) 2) 3689348814741910323) + (ibits .and .u64 (IntKind.wrap .u64 ((ibits .and .u64 (ishr .u64 q0 1) 6148914691236517205) + (ibits .and .u64 q0 6148914691236517205))) 3689348814741910323))) 4) + (IntKind.wrap .u64 ((ibits .and .u64 (ishr .u64 (IntKind.wrap .u64 ((ibits .and .u64 (ishr .u64 q0 1) 6148914691236517205) + (ibits .and .u64 q0 6148914691236517205))) 2) 3689348814741910323) + (ibits .and .u64 (IntKind.wrap .u64 ((ibits .and .u64 (ishr .u64 q0 1) 6148914691236517205) + (ibits .and .u64 q0 6148914691236517205))) 3689348814741910323))))) 1085102592571150095) 8))) 16))) 32)))) 127)) w
theorem math_bits_OnesCount64.ok {q0 : Int} {K : Value → World → Prop} {w : World} (h : math_bits_OnesCount64.F q0 K w) :
    CallsE Tryd.prog 60 #[.int .u64 q0] w K := by
  refine calls_of_J (n := 35) (rs := [.tmp 2]) Tryd.func60 rfl rfl rfl rfl ?_
  exact sh_sound _ _ _ _ (Eq.mp (by kernel_rfl) h)

end Go.Proofs.YtmjbnhleakakaaaDoor.F
