/-
  Printed by a program: for each Go function a proposition that says what it comes to, and the proof that the code comes to it. No condition beyond what each theorem states.
-/
import Derived.Test.YtklmaeefnmcmlaaDoorFa
set_option linter.unusedVariables false
set_option maxRecDepth 100000
namespace Go.Proofs.YtklmaeefnmcmlaaDoor.F
open Go Go.RowKit Go.Proofs.YtklmaeefnmcmlaaDoor Go.Proofs.YtklmaeefnmcmlaaDoor.Sh

/-! ### hayloft/hayloftref10.All: function 15 -/
abbrev ref10_All.p7 (L0 : Option Addr → Nat → Nat → Option Addr → Nat → Nat → Int → Int → World → Prop) (K : Value → World → Prop) (x0A : Option Addr) (x0n : Nat) (x0c : Nat) (x1A : Option Addr) (x1n : Nat) (x1c : Nat) (x12 : Int) (x13 : Int) (w : World) : Prop :=
  L0 x0A x0n x0c x1A x1n x1c x12 (IntKind.wrap .i64 (x13 + (1 : Int))) w
abbrev ref10_All.p6 (L0 : Option Addr → Nat → Nat → Option Addr → Nat → Nat → Int → Int → World → Prop) (K : Value → World → Prop) (x0A : Option Addr) (x0n : Nat) (x0c : Nat) (x1A : Option Addr) (x1n : Nat) (x1c : Nat) (x12 : Int) (x13 : Int) (x25 : Bool) (w : World) : Prop :=
  condP x25 (K (.bool false) w) (ref10_All.p7 L0 K x0A x0n x0c x1A x1n x1c x12 x13 w)
abbrev ref10_All.p5 (L0 : Option Addr → Nat → Nat → Option Addr → Nat → Nat → Int → Int → World → Prop) (K : Value → World → Prop) (x0A : Option Addr) (x0n : Nat) (x0c : Nat) (x1A : Option Addr) (x1n : Nat) (x1c : Nat) (x5 : Int) (x12 : Int) (x13 : Int) (w : World) : Prop :=
  ∃ (S1 : Array Obj → Prop), S1 w.heap ∧ (0 ≤ x5 ∧ x5 < ((x0n : Nat) : Int)) ∧ ∃ (a2 : Addr), x0A = some a2 ∧ (0 ≤ x5 ∧ x5 < ((x1n : Nat) : Int)) ∧ ∃ (a3 : Addr), x1A = some a3 ∧ ∃ (n4 : Int), (∀ w' : World, S1 w'.heap → w'.cell? (a2.add (x5.toNat * 4)) = some (.int .i64 n4)) ∧ ∃ (n5 : Int), (∀ w' : World, S1 w'.heap → w'.cell? ((a2.add (x5.toNat * 4)).add 1) = some (.int .i64 n5)) ∧ ∃ (n6 : Int), (∀ w' : World, S1 w'.heap → w'.cell? ((a2.add (x5.toNat * 4)).add 2) = some (.int .i64 n6)) ∧ ∃ (A7 : Option Addr) (m8 : Nat) (c9 : Nat), (∀ w' : World, S1 w'.heap → w'.cell? ((a2.add (x5.toNat * 4)).add 3) = some (.slice A7 m8 c9)) ∧ ∃ (n10 : Int), (∀ w' : World, S1 w'.heap → w'.cell? (a3.add (x5.toNat * 4)) = some (.int .i64 n10)) ∧ ∃ (n11 : Int), (∀ w' : World, S1 w'.heap → w'.cell? ((a3.add (x5.toNat * 4)).add 1) = some (.int .i64 n11)) ∧ ∃ (n12 : Int), (∀ w' : World, S1 w'.heap → w'.cell? ((a3.add (x5.toNat * 4)).add 2) = some (.int .i64 n12)) ∧ ∃ (A13 : Option Addr) (m14 : Nat) (c15 : Nat), (∀ w' : World, S1 w'.heap → w'.cell? ((a3.add (x5.toNat * 4)).add 3) = some (.slice A13 m14 c15)) ∧ CallsE Tryd.prog 31 #[.agg #[.int .i64 n4, .int .i64 n5, .int .i64 n6, .slice A7 m8 c9], .agg #[.int .i64 n10, .int .i64 n11, .int .i64 n12, .slice A13 m14 c15]] w (fun v16 w17 => ∃ (b18 : Bool), v16 = .bool b18 ∧ ref10_All.p6 L0 K x0A x0n x0c x1A x1n x1c x12 x13 (!b18) w17)
abbrev ref10_All.p4 (L0 : Option Addr → Nat → Nat → Option Addr → Nat → Nat → Int → Int → World → Prop) (K : Value → World → Prop) (x0A : Option Addr) (x0n : Nat) (x0c : Nat) (x1A : Option Addr) (x1n : Nat) (x1c : Nat) (x12 : Int) (x13 : Int) (w : World) : Prop :=
  ref10_All.p5 L0 K x0A x0n x0c x1A x1n x1c x13 x12 x13 w
abbrev ref10_All.p8 (K : Value → World → Prop) (w : World) : Prop :=
  K (.bool true) w
abbrev ref10_All.p3 (L0 : Option Addr → Nat → Nat → Option Addr → Nat → Nat → Int → Int → World → Prop) (K : Value → World → Prop) (x0A : Option Addr) (x0n : Nat) (x0c : Nat) (x1A : Option Addr) (x1n : Nat) (x1c : Nat) (x12 : Int) (x13 : Int) (x14 : Bool) (w : World) : Prop :=
  condP x14 (ref10_All.p4 L0 K x0A x0n x0c x1A x1n x1c x12 x13 w) (ref10_All.p8 K w)
abbrev ref10_All.b0 (L0 : Option Addr → Nat → Nat → Option Addr → Nat → Nat → Int → Int → World → Prop) (K : Value → World → Prop) (x0A : Option Addr) (x0n : Nat) (x0c : Nat) (x1A : Option Addr) (x1n : Nat) (x1c : Nat) (x12 : Int) (x13 : Int) (w : World) : Prop :=
  ref10_All.p3 L0 K x0A x0n x0c x1A x1n x1c x12 x13 (decide (x13 < x12)) w
def ref10_All.l0 (K : Value → World → Prop) (k : Nat) : Option Addr → Nat → Nat → Option Addr → Nat → Nat → Int → Int → World → Prop :=
  Nat.rec (motive := fun _ => Option Addr → Nat → Nat → Option Addr → Nat → Nat → Int → Int → World → Prop) (fun _ _ _ _ _ _ _ _ _ => False) (fun _ ih => ref10_All.b0 ih K) k
theorem ref10_All.l0_succ (K : Value → World → Prop) (k : Nat) (x0A : Option Addr) (x0n : Nat) (x0c : Nat) (x1A : Option Addr) (x1n : Nat) (x1c : Nat) (x12 : Int) (x13 : Int) (w : World) : ref10_All.l0 K (k + 1) x0A x0n x0c x1A x1n x1c x12 x13 w = ref10_All.b0 (ref10_All.l0 K k) K x0A x0n x0c x1A x1n x1c x12 x13 w := rfl
abbrev ref10_All.p2 (K : Value → World → Prop) (x0A : Option Addr) (x0n : Nat) (x0c : Nat) (x1A : Option Addr) (x1n : Nat) (x1c : Nat) (x12 : Int) (x13 : Int) (w : World) : Prop :=
  ∃ k, ref10_All.l0 K k x0A x0n x0c x1A x1n x1c x12 x13 w
abbrev ref10_All.p1 (K : Value → World → Prop) (x0A : Option Addr) (x0n : Nat) (x0c : Nat) (x1A : Option Addr) (x1n : Nat) (x1c : Nat) (w : World) : Prop :=
  ref10_All.p2 K x0A x0n x0c x1A x1n x1c ((x0n : Nat) : Int) 0 w
abbrev ref10_All.p0 (K : Value → World → Prop) (x0A : Option Addr) (x0n : Nat) (x0c : Nat) (x1A : Option Addr) (x1n : Nat) (x1c : Nat) (w : World) : Prop :=
  condP (((x0n : Nat) : Int) != ((x1n : Nat) : Int)) (K (.bool false) w) (ref10_All.p1 K x0A x0n x0c x1A x1n x1c w)
abbrev ref10_All.F (q0A : Option Addr) (q0n : Nat) (q0c : Nat) (q1A : Option Addr) (q1n : Nat) (q1c : Nat) (K : Value → World → Prop) (w : World) : Prop :=
  ref10_All.p0 K q0A q0n q0c q1A q1n q1c w
theorem ref10_All.ok {q0A : Option Addr} {q0n : Nat} {q0c : Nat} {q1A : Option Addr} {q1n : Nat} {q1c : Nat} {K : Value → World → Prop} {w : World} (h : ref10_All.F q0A q0n q0c q1A q1n q1c K w) :
    CallsE Tryd.prog 15 #[.slice q0A q0n q0c, .slice q1A q1n q1c] w K := by
  refine calls_of_J (n := 27) (rs := [.tmp 4]) Tryd.func15 rfl rfl rfl rfl ?_
  refine J_seq (fun σ w => vS (σ 0) fun x0A x0n x0c => vS (σ 1) fun x1A x1n x1c => ref10_All.p0 K x0A x0n x0c x1A x1n x1c w) ?_ ?_
  ·
    exact sh_sound _ _ _ _ (Eq.mp (by kernel_rfl) h)
  · intro σ w h
    obtain ⟨x0A, x0n, x0c, e0, h⟩ := vS_elim h
    obtain ⟨x1A, x1n, x1c, e1, h⟩ := vS_elim h
    refine J.sub ?_ (((Sub.base _).upd e0).upd e1)
    clear e0 e1
    refine J_seq (fun σ w => vS (σ 0) fun x0A x0n x0c => vS (σ 1) fun x1A x1n x1c => ref10_All.p1 K x0A x0n x0c x1A x1n x1c w) ?_ ?_
    ·
      exact sh_sound _ _ _ _ (Eq.mp (by kernel_rfl) h)
    · intro σ w h
      obtain ⟨x0A, x0n, x0c, e0, h⟩ := vS_elim h
      obtain ⟨x1A, x1n, x1c, e1, h⟩ := vS_elim h
      refine J.sub ?_ (((Sub.base _).upd e0).upd e1)
      clear e0 e1
      refine J_seq (fun σ w => ref10_All.p8 K w) ?_ ?_
      ·
        refine J_seq (fun σ w => vS (σ 0) fun x0A x0n x0c => vS (σ 1) fun x1A x1n x1c => vI .i64 (σ 12) fun x12 => vI .i64 (σ 13) fun x13 => ref10_All.p2 K x0A x0n x0c x1A x1n x1c x12 x13 w) ?_ ?_
        ·
          exact sh_sound _ _ _ _ (Eq.mp (by kernel_rfl) h)
        · intro σ w h
          obtain ⟨x0A, x0n, x0c, e0, h⟩ := vS_elim h
          obtain ⟨x1A, x1n, x1c, e1, h⟩ := vS_elim h
          obtain ⟨x12, e12, h⟩ := vI_elim h
          obtain ⟨x13, e13, h⟩ := vI_elim h
          refine J.sub ?_ (((((Sub.base _).upd e0).upd e1).upd e12).upd e13)
          clear e0 e1 e12 e13
          refine J_block ?_
          refine J_loop (fun k σ w => vS (σ 0) fun x0A x0n x0c => vS (σ 1) fun x1A x1n x1c => vI .i64 (σ 12) fun x12 => vI .i64 (σ 13) fun x13 => ref10_All.l0 K k x0A x0n x0c x1A x1n x1c x12 x13 w) (Eq.mp (by kernel_rfl) h) ?_ ?_
          · intro σ w h
            obtain ⟨x0A, x0n, x0c, e0, h⟩ := vS_elim h
            obtain ⟨x1A, x1n, x1c, e1, h⟩ := vS_elim h
            obtain ⟨x12, e12, h⟩ := vI_elim h
            obtain ⟨x13, e13, h⟩ := vI_elim h
            exact h
          · intro k0 σ w h
            obtain ⟨x0A, x0n, x0c, e0, h⟩ := vS_elim h
            obtain ⟨x1A, x1n, x1c, e1, h⟩ := vS_elim h
            obtain ⟨x12, e12, h⟩ := vI_elim h
            obtain ⟨x13, e13, h⟩ := vI_elim h
            refine J.sub ?_ (((((Sub.base _).upd e0).upd e1).upd e12).upd e13)
            clear e0 e1 e12 e13
            refine J_seq (fun σ w => vS (σ 0) fun x0A x0n x0c => vS (σ 1) fun x1A x1n x1c => vI .i64 (σ 12) fun x12 => vI .i64 (σ 13) fun x13 => vB (σ 14) fun x14 => ref10_All.p3 (ref10_All.l0 K k0) K x0A x0n x0c x1A x1n x1c x12 x13 x14 w) ?_ ?_
            ·
              exact sh_sound _ _ _ _ (Eq.mp (by kernel_rfl) h)
            · intro σ w h
              obtain ⟨x0A, x0n, x0c, e0, h⟩ := vS_elim h
              obtain ⟨x1A, x1n, x1c, e1, h⟩ := vS_elim h
              obtain ⟨x12, e12, h⟩ := vI_elim h
              obtain ⟨x13, e13, h⟩ := vI_elim h
              obtain ⟨x14, e14, h⟩ := vB_elim h
              refine J.sub ?_ ((((((Sub.base _).upd e0).upd e1).upd e12).upd e13).upd e14)
              clear e0 e1 e12 e13 e14
              refine J_seq (fun σ w => vS (σ 0) fun x0A x0n x0c => vS (σ 1) fun x1A x1n x1c => vI .i64 (σ 12) fun x12 => vI .i64 (σ 13) fun x13 => ref10_All.p4 (ref10_All.l0 K k0) K x0A x0n x0c x1A x1n x1c x12 x13 w) ?_ ?_
              ·
                exact sh_sound _ _ _ _ (Eq.mp (by kernel_rfl) h)
              · intro σ w h
                obtain ⟨x0A, x0n, x0c, e0, h⟩ := vS_elim h
                obtain ⟨x1A, x1n, x1c, e1, h⟩ := vS_elim h
                obtain ⟨x12, e12, h⟩ := vI_elim h
                obtain ⟨x13, e13, h⟩ := vI_elim h
                refine J.sub ?_ (((((Sub.base _).upd e0).upd e1).upd e12).upd e13)
                clear e0 e1 e12 e13
                refine J_seq (fun σ w => vS (σ 0) fun x0A x0n x0c => vS (σ 1) fun x1A x1n x1c => vI .i64 (σ 12) fun x12 => vI .i64 (σ 13) fun x13 => ref10_All.p7 (ref10_All.l0 K k0) K x0A x0n x0c x1A x1n x1c x12 x13 w) ?_ ?_
                ·
                  refine J_block ?_
                  refine J_seq (fun σ w => vS (σ 0) fun x0A x0n x0c => vS (σ 1) fun x1A x1n x1c => vI .i64 (σ 5) fun x5 => vI .i64 (σ 12) fun x12 => vI .i64 (σ 13) fun x13 => ref10_All.p5 (ref10_All.l0 K k0) K x0A x0n x0c x1A x1n x1c x5 x12 x13 w) ?_ ?_
                  ·
                    exact sh_sound _ _ _ _ (Eq.mp (by kernel_rfl) h)
                  · intro σ w h
                    obtain ⟨x0A, x0n, x0c, e0, h⟩ := vS_elim h
                    obtain ⟨x1A, x1n, x1c, e1, h⟩ := vS_elim h
                    obtain ⟨x5, e5, h⟩ := vI_elim h
                    obtain ⟨x12, e12, h⟩ := vI_elim h
                    obtain ⟨x13, e13, h⟩ := vI_elim h
                    refine J.sub ?_ ((((((Sub.base _).upd e0).upd e1).upd e5).upd e12).upd e13)
                    clear e0 e1 e5 e12 e13
                    refine J_seq (fun σ w => vS (σ 0) fun x0A x0n x0c => vS (σ 1) fun x1A x1n x1c => vI .i64 (σ 12) fun x12 => vI .i64 (σ 13) fun x13 => vB (σ 25) fun x25 => ref10_All.p6 (ref10_All.l0 K k0) K x0A x0n x0c x1A x1n x1c x12 x13 x25 w) ?_ ?_
                    ·
                      exact J_held [8] [(0, 0), (1, 0), (2, 0), (4, 0), (5, 0), (6, 0), (3, 1), (7, 1), (8, 3), (9, 0)] (by kernel_rfl) (Eq.mp (by kernel_rfl) h)
                    · intro σ w h
                      obtain ⟨x0A, x0n, x0c, e0, h⟩ := vS_elim h
                      obtain ⟨x1A, x1n, x1c, e1, h⟩ := vS_elim h
                      obtain ⟨x12, e12, h⟩ := vI_elim h
                      obtain ⟨x13, e13, h⟩ := vI_elim h
                      obtain ⟨x25, e25, h⟩ := vB_elim h
                      refine J.sub ?_ ((((((Sub.base _).upd e0).upd e1).upd e12).upd e13).upd e25)
                      clear e0 e1 e12 e13 e25
                      exact sh_sound _ _ _ _ (Eq.mp (by kernel_rfl) h)
                · intro σ w h
                  obtain ⟨x0A, x0n, x0c, e0, h⟩ := vS_elim h
                  obtain ⟨x1A, x1n, x1c, e1, h⟩ := vS_elim h
                  obtain ⟨x12, e12, h⟩ := vI_elim h
                  obtain ⟨x13, e13, h⟩ := vI_elim h
                  refine J.sub ?_ (((((Sub.base _).upd e0).upd e1).upd e12).upd e13)
                  clear e0 e1 e12 e13
                  exact sh_sound _ _ _ _ (Eq.mp (by kernel_rfl) h)
      · intro σ w h
        refine J.sub ?_ (Sub.base _)
        exact sh_sound _ _ _ _ (Eq.mp (by kernel_rfl) h)

/-! ### hayloft/hayloftref13.Plan: function 16 -/
abbrev ref13_Plan.p11 (L1 : Option Addr → Nat → Nat → Option Addr → Nat → Nat → Int → Option Addr → Nat → Nat → Option Addr → Nat → Nat → Int → Option Addr → Nat → Nat → Int → Int → World → Prop) (L0 : Option Addr → Nat → Nat → Option Addr → Nat → Nat → Int → World → Prop) (K : Value → World → Prop) (x4A : Option Addr) (x4n : Nat) (x4c : Nat) (x5A : Option Addr) (x5n : Nat) (x5c : Nat) (x6 : Int) (x7A : Option Addr) (x7n : Nat) (x7c : Nat) (x8A : Option Addr) (x8n : Nat) (x8c : Nat) (x9 : Int) (x31A : Option Addr) (x31n : Nat) (x31c : Nat) (x32 : Int) (x33 : Int) (w : World) : Prop :=
  L1 x4A x4n x4c x5A x5n x5c x6 x7A x7n x7c x8A x8n x8c x9 x31A x31n x31c x32 (IntKind.wrap .i64 (x33 + (1 : Int))) w
abbrev ref13_Plan.p15 (L1 : Option Addr → Nat → Nat → Option Addr → Nat → Nat → Int → Option Addr → Nat → Nat → Option Addr → Nat → Nat → Int → Option Addr → Nat → Nat → Int → Int → World → Prop) (L0 : Option Addr → Nat → Nat → Option Addr → Nat → Nat → Int → World → Prop) (K : Value → World → Prop) (x4A : Option Addr) (x4n : Nat) (x4c : Nat) (x5A : Option Addr) (x5n : Nat) (x5c : Nat) (x6 : Int) (x7A : Option Addr) (x7n : Nat) (x7c : Nat) (x8A : Option Addr) (x8n : Nat) (x8c : Nat) (x9 : Int) (x10 : Int) (x31A : Option Addr) (x31n : Nat) (x31c : Nat) (x32 : Int) (x33 : Int) (w : World) : Prop :=
  (0 ≤ x10 ∧ x10 < ((x4n : Nat) : Int)) ∧ ∃ (a40 : Addr), x4A = some a40 ∧ canStore w ((a40.add (x10.toNat * 4)).add 3) ∧ wlet (w.setCell ((a40.add (x10.toNat * 4)).add 3) (.slice none 0 0)) fun w41 => ref13_Plan.p11 L1 L0 K x4A x4n x4c x5A x5n x5c x6 x7A x7n x7c x8A x8n x8c x9 x31A x31n x31c x32 x33 w41
abbrev ref13_Plan.b2 (L2 : Option Addr → Nat → Nat → Option Addr → Nat → Nat → Int → Option Addr → Nat → Nat → Option Addr → Nat → Nat → Int → Int → Addr → Option Addr → Nat → Nat → Int → Int → Option Addr → Nat → Nat → Int → Int → World → Prop) (L1 : Option Addr → Nat → Nat → Option Addr → Nat → Nat → Int → Option Addr → Nat → Nat → Option Addr → Nat → Nat → Int → Option Addr → Nat → Nat → Int → Int → World → Prop) (L0 : Option Addr → Nat → Nat → Option Addr → Nat → Nat → Int → World → Prop) (K : Value → World → Prop) (x4A : Option Addr) (x4n : Nat) (x4c : Nat) (x5A : Option Addr) (x5n : Nat) (x5c : Nat) (x6 : Int) (x7A : Option Addr) (x7n : Nat) (x7c : Nat) (x8A : Option Addr) (x8n : Nat) (x8c : Nat) (x9 : Int) (x10 : Int) (x11 : Addr) (x31A : Option Addr) (x31n : Nat) (x31c : Nat) (x32 : Int) (x33 : Int) (x47A : Option Addr) (x47n : Nat) (x47c : Nat) (x48 : Int) (x49 : Int) (w : World) : Prop :=
  condP (decide (x49 < x48)) ((0 ≤ x49 ∧ x49 < ((x47n : Nat) : Int)) ∧ ∃ (a31 : Addr), x47A = some a31 ∧ ∃ (n32 : Int), w.cell? (a31.add x49.toNat) = some (.int .i64 n32) ∧ ∃ (n33 : Int), w.cell? x11 = some (.int .i64 n33) ∧ wlet (w.alloc (.cells #[.int .i64 (IntKind.wrap .i64 ((IntKind.wrap .i64 ((256 : Int) * n33)) + (IntKind.wrap .i64 (n32 * x9))))] 3)) fun w34 => SemJ Tryd.prog (Builtin.append_ #[44, 44] 44 #[.slice x8A x8n x8c, .slice (some ⟨w.heap.size, 0, none⟩) 1 1]) (fun v35 w36 => ∃ (A37 : Option Addr) (m38 : Nat) (c39 : Nat), v35 = .slice A37 m38 c39 ∧ L2 x4A x4n x4c x5A x5n x5c x6 x7A x7n x7c A37 m38 c39 x9 x10 x11 x31A x31n x31c x32 x33 x47A x47n x47c x48 (IntKind.wrap .i64 (x49 + (1 : Int))) w36) w34) (ref13_Plan.p15 L1 L0 K x4A x4n x4c x5A x5n x5c x6 x7A x7n x7c x8A x8n x8c x9 x10 x31A x31n x31c x32 x33 w)
def ref13_Plan.l2 (L1 : Option Addr → Nat → Nat → Option Addr → Nat → Nat → Int → Option Addr → Nat → Nat → Option Addr → Nat → Nat → Int → Option Addr → Nat → Nat → Int → Int → World → Prop) (L0 : Option Addr → Nat → Nat → Option Addr → Nat → Nat → Int → World → Prop) (K : Value → World → Prop) (k : Nat) : Option Addr → Nat → Nat → Option Addr → Nat → Nat → Int → Option Addr → Nat → Nat → Option Addr → Nat → Nat → Int → Int → Addr → Option Addr → Nat → Nat → Int → Int → Option Addr → Nat → Nat → Int → Int → World → Prop :=
  Nat.rec (motive := fun _ => Option Addr → Nat → Nat → Option Addr → Nat → Nat → Int → Option Addr → Nat → Nat → Option Addr → Nat → Nat → Int → Int → Addr → Option Addr → Nat → Nat → Int → Int → Option Addr → Nat → Nat → Int → Int → World → Prop) (fun _ _ _ _ _ _ _ _ _ _ _ _ _ _ _ _ _ _ _ _ _ _ _ _ _ _ _ => False) (fun _ ih => ref13_Plan.b2 ih L1 L0 K) k
theorem ref13_Plan.l2_succ (L1 : Option Addr → Nat → Nat → Option Addr → Nat → Nat → Int → Option Addr → Nat → Nat → Option Addr → Nat → Nat → Int → Option Addr → Nat → Nat → Int → Int → World → Prop) (L0 : Option Addr → Nat → Nat → Option Addr → Nat → Nat → Int → World → Prop) (K : Value → World → Prop) (k : Nat) (x4A : Option Addr) (x4n : Nat) (x4c : Nat) (x5A : Option Addr) (x5n : Nat) (x5c : Nat) (x6 : Int) (x7A : Option Addr) (x7n : Nat) (x7c : Nat) (x8A : Option Addr) (x8n : Nat) (x8c : Nat) (x9 : Int) (x10 : Int) (x11 : Addr) (x31A : Option Addr) (x31n : Nat) (x31c : Nat) (x32 : Int) (x33 : Int) (x47A : Option Addr) (x47n : Nat) (x47c : Nat) (x48 : Int) (x49 : Int) (w : World) : ref13_Plan.l2 L1 L0 K (k + 1) x4A x4n x4c x5A x5n x5c x6 x7A x7n x7c x8A x8n x8c x9 x10 x11 x31A x31n x31c x32 x33 x47A x47n x47c x48 x49 w = ref13_Plan.b2 (ref13_Plan.l2 L1 L0 K k) L1 L0 K x4A x4n x4c x5A x5n x5c x6 x7A x7n x7c x8A x8n x8c x9 x10 x11 x31A x31n x31c x32 x33 x47A x47n x47c x48 x49 w := rfl
abbrev ref13_Plan.p14 (L1 : Option Addr → Nat → Nat → Option Addr → Nat → Nat → Int → Option Addr → Nat → Nat → Option Addr → Nat → Nat → Int → Option Addr → Nat → Nat → Int → Int → World → Prop) (L0 : Option Addr → Nat → Nat → Option Addr → Nat → Nat → Int → World → Prop) (K : Value → World → Prop) (x4A : Option Addr) (x4n : Nat) (x4c : Nat) (x5A : Option Addr) (x5n : Nat) (x5c : Nat) (x6 : Int) (x7A : Option Addr) (x7n : Nat) (x7c : Nat) (x8A : Option Addr) (x8n : Nat) (x8c : Nat) (x9 : Int) (x10 : Int) (x11 : Addr) (x31A : Option Addr) (x31n : Nat) (x31c : Nat) (x32 : Int) (x33 : Int) (x47A : Option Addr) (x47n : Nat) (x47c : Nat) (x48 : Int) (x49 : Int) (w : World) : Prop :=
  ∃ k, ref13_Plan.l2 L1 L0 K k x4A x4n x4c x5A x5n x5c x6 x7A x7n x7c x8A x8n x8c x9 x10 x11 x31A x31n x31c x32 x33 x47A x47n x47c x48 x49 w
abbrev ref13_Plan.p13 (L1 : Option Addr → Nat → Nat → Option Addr → Nat → Nat → Int → Option Addr → Nat → Nat → Option Addr → Nat → Nat → Int → Option Addr → Nat → Nat → Int → Int → World → Prop) (L0 : Option Addr → Nat → Nat → Option Addr → Nat → Nat → Int → World → Prop) (K : Value → World → Prop) (x4A : Option Addr) (x4n : Nat) (x4c : Nat) (x5A : Option Addr) (x5n : Nat) (x5c : Nat) (x6 : Int) (x7A : Option Addr) (x7n : Nat) (x7c : Nat) (x8A : Option Addr) (x8n : Nat) (x8c : Nat) (x9 : Int) (x10 : Int) (x11 : Addr) (x31A : Option Addr) (x31n : Nat) (x31c : Nat) (x32 : Int) (x33 : Int) (w : World) : Prop :=
  ∃ (A28 : Option Addr) (m29 : Nat) (c30 : Nat), w.cell? (x11.add 3) = some (.slice A28 m29 c30) ∧ ref13_Plan.p14 L1 L0 K x4A x4n x4c x5A x5n x5c x6 x7A x7n x7c x8A x8n x8c x9 x10 x11 x31A x31n x31c x32 x33 A28 m29 c30 ((m29 : Nat) : Int) 0 w
abbrev ref13_Plan.p12 (L1 : Option Addr → Nat → Nat → Option Addr → Nat → Nat → Int → Option Addr → Nat → Nat → Option Addr → Nat → Nat → Int → Option Addr → Nat → Nat → Int → Int → World → Prop) (L0 : Option Addr → Nat → Nat → Option Addr → Nat → Nat → Int → World → Prop) (K : Value → World → Prop) (x4A : Option Addr) (x4n : Nat) (x4c : Nat) (x5A : Option Addr) (x5n : Nat) (x5c : Nat) (x6 : Int) (x7A : Option Addr) (x7n : Nat) (x7c : Nat) (x8A : Option Addr) (x8n : Nat) (x8c : Nat) (x9 : Int) (x10 : Int) (x11 : Addr) (x31A : Option Addr) (x31n : Nat) (x31c : Nat) (x32 : Int) (x33 : Int) (w : World) : Prop :=
  wlet (w.alloc (.cells #[.int .i64 x10] 3)) fun w22 => SemJ Tryd.prog (Builtin.append_ #[44, 44] 44 #[.slice x7A x7n x7c, .slice (some ⟨w.heap.size, 0, none⟩) 1 1]) (fun v23 w24 => ∃ (A25 : Option Addr) (m26 : Nat) (c27 : Nat), v23 = .slice A25 m26 c27 ∧ ref13_Plan.p13 L1 L0 K x4A x4n x4c x5A x5n x5c x6 A25 m26 c27 x8A x8n x8c x9 x10 x11 x31A x31n x31c x32 x33 w24) w22
abbrev ref13_Plan.p10 (L1 : Option Addr → Nat → Nat → Option Addr → Nat → Nat → Int → Option Addr → Nat → Nat → Option Addr → Nat → Nat → Int → Option Addr → Nat → Nat → Int → Int → World → Prop) (L0 : Option Addr → Nat → Nat → Option Addr → Nat → Nat → Int → World → Prop) (K : Value → World → Prop) (x4A : Option Addr) (x4n : Nat) (x4c : Nat) (x5A : Option Addr) (x5n : Nat) (x5c : Nat) (x6 : Int) (x7A : Option Addr) (x7n : Nat) (x7c : Nat) (x8A : Option Addr) (x8n : Nat) (x8c : Nat) (x9 : Int) (x10 : Int) (x11 : Addr) (x31A : Option Addr) (x31n : Nat) (x31c : Nat) (x32 : Int) (x33 : Int) (w : World) : Prop :=
  ∃ (n21 : Int), w.cell? (x11.add 1) = some (.int .i64 n21) ∧ condP (n21 != x6) (ref13_Plan.p11 L1 L0 K x4A x4n x4c x5A x5n x5c x6 x7A x7n x7c x8A x8n x8c x9 x31A x31n x31c x32 x33 w) (ref13_Plan.p12 L1 L0 K x4A x4n x4c x5A x5n x5c x6 x7A x7n x7c x8A x8n x8c x9 x10 x11 x31A x31n x31c x32 x33 w)
abbrev ref13_Plan.p9 (L1 : Option Addr → Nat → Nat → Option Addr → Nat → Nat → Int → Option Addr → Nat → Nat → Option Addr → Nat → Nat → Int → Option Addr → Nat → Nat → Int → Int → World → Prop) (L0 : Option Addr → Nat → Nat → Option Addr → Nat → Nat → Int → World → Prop) (K : Value → World → Prop) (x4A : Option Addr) (x4n : Nat) (x4c : Nat) (x5A : Option Addr) (x5n : Nat) (x5c : Nat) (x6 : Int) (x7A : Option Addr) (x7n : Nat) (x7c : Nat) (x8A : Option Addr) (x8n : Nat) (x8c : Nat) (x9 : Int) (x31A : Option Addr) (x31n : Nat) (x31c : Nat) (x32 : Int) (x33 : Int) (w : World) : Prop :=
  (0 ≤ x33 ∧ x33 < ((x31n : Nat) : Int)) ∧ ∃ (a9 : Addr), x31A = some a9 ∧ ∃ (n10 : Int), w.cell? (a9.add (x33.toNat * 4)) = some (.int .i64 n10) ∧ ∃ (n11 : Int), w.cell? ((a9.add (x33.toNat * 4)).add 1) = some (.int .i64 n11) ∧ ∃ (n12 : Int), w.cell? ((a9.add (x33.toNat * 4)).add 2) = some (.int .i64 n12) ∧ ∃ (A13 : Option Addr) (m14 : Nat) (c15 : Nat), w.cell? ((a9.add (x33.toNat * 4)).add 3) = some (.slice A13 m14 c15) ∧ wlet (w.alloc (.cells #[.int .i64 0, .int .i64 0, .int .i64 0, .slice none 0 0] 46)) fun w16 => canStore w16 (⟨w.heap.size, 0, none⟩) ∧ wlet (w16.setCell (⟨w.heap.size, 0, none⟩) (.int .i64 n10)) fun w17 => canStore w17 (⟨w.heap.size, 1, none⟩) ∧ wlet (w17.setCell (⟨w.heap.size, 1, none⟩) (.int .i64 n11)) fun w18 => canStore w18 (⟨w.heap.size, 2, none⟩) ∧ wlet (w18.setCell (⟨w.heap.size, 2, none⟩) (.int .i64 n12)) fun w19 => canStore w19 (⟨w.heap.size, 3, none⟩) ∧ wlet (w19.setCell (⟨w.heap.size, 3, none⟩) (.slice A13 m14 c15)) fun w20 => ref13_Plan.p10 L1 L0 K x4A x4n x4c x5A x5n x5c x6 x7A x7n x7c x8A x8n x8c x9 x33 (⟨w.heap.size, 0, none⟩) x31A x31n x31c x32 x33 w20
abbrev ref13_Plan.p20 (L3 : Option Addr → Nat → Nat → Option Addr → Nat → Nat → Int → Option Addr → Nat → Nat → Option Addr → Nat → Nat → Int → Int → Int → World → Prop) (L0 : Option Addr → Nat → Nat → Option Addr → Nat → Nat → Int → World → Prop) (K : Value → World → Prop) (x4A : Option Addr) (x4n : Nat) (x4c : Nat) (x5A : Option Addr) (x5n : Nat) (x5c : Nat) (x6 : Int) (x7A : Option Addr) (x7n : Nat) (x7c : Nat) (x8A : Option Addr) (x8n : Nat) (x8c : Nat) (x9 : Int) (x70 : Int) (x71 : Int) (w : World) : Prop :=
  L3 x4A x4n x4c x5A x5n x5c x6 x7A x7n x7c x8A x8n x8c x9 x70 (IntKind.wrap .i64 (x71 + (1 : Int))) w
abbrev ref13_Plan.p19 (L3 : Option Addr → Nat → Nat → Option Addr → Nat → Nat → Int → Option Addr → Nat → Nat → Option Addr → Nat → Nat → Int → Int → Int → World → Prop) (L0 : Option Addr → Nat → Nat → Option Addr → Nat → Nat → Int → World → Prop) (K : Value → World → Prop) (x4A : Option Addr) (x4n : Nat) (x4c : Nat) (x5A : Option Addr) (x5n : Nat) (x5c : Nat) (x6 : Int) (x7A : Option Addr) (x7n : Nat) (x7c : Nat) (x8A : Option Addr) (x8n : Nat) (x8c : Nat) (x9 : Int) (x70 : Int) (x71 : Int) (w : World) : Prop :=
  CallsE Tryd.prog 33 #[.int .i64 x6] w (fun v42 w43 => ∃ (n44 : Int), v42 = .int .i64 n44 ∧ n44 ≠ 0 ∧ (0 ≤ (IntKind.wrap .i64 (Int.tdiv x71 n44)) ∧ (IntKind.wrap .i64 (Int.tdiv x71 n44)) < ((x7n : Nat) : Int)) ∧ ∃ (a45 : Addr), x7A = some a45 ∧ ∃ (n46 : Int), w43.cell? (a45.add ((IntKind.wrap .i64 (Int.tdiv x71 n44)).toNat)) = some (.int .i64 n46) ∧ CallsE Tryd.prog 33 #[.int .i64 x6] w43 (fun v47 w48 => ∃ (n49 : Int), v47 = .int .i64 n49 ∧ n49 ≠ 0 ∧ (0 ≤ n46 ∧ n46 < ((x4n : Nat) : Int)) ∧ ∃ (a50 : Addr), x4A = some a50 ∧ ∃ (n51 : Int), w48.cell? (a50.add (n46.toNat * 4)) = some (.int .i64 n51) ∧ (0 ≤ n46 ∧ n46 < ((x4n : Nat) : Int)) ∧ ∃ (a52 : Addr), x4A = some a52 ∧ ∃ (A53 : Option Addr) (m54 : Nat) (c55 : Nat), w48.cell? ((a52.add (n46.toNat * 4)).add 3) = some (.slice A53 m54 c55) ∧ wlet (w48.alloc (.cells #[.int .i64 (Int.tmod x71 n49)] 3)) fun w56 => SemJ Tryd.prog (Builtin.append_ #[44, 44] 44 #[.slice A53 m54 c55, .slice (some ⟨w48.heap.size, 0, none⟩) 1 1]) (fun v57 w58 => ∃ (A59 : Option Addr) (m60 : Nat) (c61 : Nat), v57 = .slice A59 m60 c61 ∧ (0 ≤ n46 ∧ n46 < ((x4n : Nat) : Int)) ∧ ∃ (a62 : Addr), x4A = some a62 ∧ canStore w58 ((a62.add (n46.toNat * 4)).add 3) ∧ wlet (w58.setCell ((a62.add (n46.toNat * 4)).add 3) (.slice A59 m60 c61)) fun w63 => (0 ≤ x71 ∧ x71 < ((x8n : Nat) : Int)) ∧ ∃ (a64 : Addr), x8A = some a64 ∧ ∃ (n65 : Int), w63.cell? (a64.add x71.toNat) = some (.int .i64 n65) ∧ condP ((IntKind.wrap .i64 ((IntKind.wrap .i64 ((256 : Int) * n51)) + (IntKind.wrap .i64 ((Int.tmod x71 n49) * x9)))) != n65) ((0 ≤ x71 ∧ x71 < ((x8n : Nat) : Int)) ∧ ∃ (a66 : Addr), x8A = some a66 ∧ ∃ (n67 : Int), w63.cell? (a66.add x71.toNat) = some (.int .i64 n67) ∧ wlet (w63.alloc (.cells #[.int .i64 n67, .int .i64 (IntKind.wrap .i64 ((IntKind.wrap .i64 ((256 : Int) * n51)) + (IntKind.wrap .i64 ((Int.tmod x71 n49) * x9)))), .int .i64 x9] 25)) fun w68 => SemJ Tryd.prog (Builtin.append_ #[22, 22] 22 #[.slice x5A x5n x5c, .slice (some ⟨w63.heap.size, 0, none⟩) 1 1]) (fun v69 w70 => ∃ (A71 : Option Addr) (m72 : Nat) (c73 : Nat), v69 = .slice A71 m72 c73 ∧ ref13_Plan.p20 L3 L0 K x4A x4n x4c A71 m72 c73 x6 x7A x7n x7c x8A x8n x8c x9 x70 x71 w70) w68) (ref13_Plan.p20 L3 L0 K x4A x4n x4c x5A x5n x5c x6 x7A x7n x7c x8A x8n x8c x9 x70 x71 w63)) w56))
abbrev ref13_Plan.p21 (L0 : Option Addr → Nat → Nat → Option Addr → Nat → Nat → Int → World → Prop) (K : Value → World → Prop) (x4A : Option Addr) (x4n : Nat) (x4c : Nat) (x5A : Option Addr) (x5n : Nat) (x5c : Nat) (x6 : Int) (w : World) : Prop :=
  L0 x4A x4n x4c x5A x5n x5c (IntKind.wrap .i64 (x6 + (1 : Int))) w
abbrev ref13_Plan.p18 (L3 : Option Addr → Nat → Nat → Option Addr → Nat → Nat → Int → Option Addr → Nat → Nat → Option Addr → Nat → Nat → Int → Int → Int → World → Prop) (L0 : Option Addr → Nat → Nat → Option Addr → Nat → Nat → Int → World → Prop) (K : Value → World → Prop) (x4A : Option Addr) (x4n : Nat) (x4c : Nat) (x5A : Option Addr) (x5n : Nat) (x5c : Nat) (x6 : Int) (x7A : Option Addr) (x7n : Nat) (x7c : Nat) (x8A : Option Addr) (x8n : Nat) (x8c : Nat) (x9 : Int) (x70 : Int) (x71 : Int) (x72 : Bool) (w : World) : Prop :=
  condP x72 (ref13_Plan.p19 L3 L0 K x4A x4n x4c x5A x5n x5c x6 x7A x7n x7c x8A x8n x8c x9 x70 x71 w) (ref13_Plan.p21 L0 K x4A x4n x4c x5A x5n x5c x6 w)
abbrev ref13_Plan.b3 (L3 : Option Addr → Nat → Nat → Option Addr → Nat → Nat → Int → Option Addr → Nat → Nat → Option Addr → Nat → Nat → Int → Int → Int → World → Prop) (L0 : Option Addr → Nat → Nat → Option Addr → Nat → Nat → Int → World → Prop) (K : Value → World → Prop) (x4A : Option Addr) (x4n : Nat) (x4c : Nat) (x5A : Option Addr) (x5n : Nat) (x5c : Nat) (x6 : Int) (x7A : Option Addr) (x7n : Nat) (x7c : Nat) (x8A : Option Addr) (x8n : Nat) (x8c : Nat) (x9 : Int) (x70 : Int) (x71 : Int) (w : World) : Prop :=
  ref13_Plan.p18 L3 L0 K x4A x4n x4c x5A x5n x5c x6 x7A x7n x7c x8A x8n x8c x9 x70 x71 (decide (x71 < x70)) w
def ref13_Plan.l3 (L0 : Option Addr → Nat → Nat → Option Addr → Nat → Nat → Int → World → Prop) (K : Value → World → Prop) (k : Nat) : Option Addr → Nat → Nat → Option Addr → Nat → Nat → Int → Option Addr → Nat → Nat → Option Addr → Nat → Nat → Int → Int → Int → World → Prop :=
  Nat.rec (motive := fun _ => Option Addr → Nat → Nat → Option Addr → Nat → Nat → Int → Option Addr → Nat → Nat → Option Addr → Nat → Nat → Int → Int → Int → World → Prop) (fun _ _ _ _ _ _ _ _ _ _ _ _ _ _ _ _ _ => False) (fun _ ih => ref13_Plan.b3 ih L0 K) k
theorem ref13_Plan.l3_succ (L0 : Option Addr → Nat → Nat → Option Addr → Nat → Nat → Int → World → Prop) (K : Value → World → Prop) (k : Nat) (x4A : Option Addr) (x4n : Nat) (x4c : Nat) (x5A : Option Addr) (x5n : Nat) (x5c : Nat) (x6 : Int) (x7A : Option Addr) (x7n : Nat) (x7c : Nat) (x8A : Option Addr) (x8n : Nat) (x8c : Nat) (x9 : Int) (x70 : Int) (x71 : Int) (w : World) : ref13_Plan.l3 L0 K (k + 1) x4A x4n x4c x5A x5n x5c x6 x7A x7n x7c x8A x8n x8c x9 x70 x71 w = ref13_Plan.b3 (ref13_Plan.l3 L0 K k) L0 K x4A x4n x4c x5A x5n x5c x6 x7A x7n x7c x8A x8n x8c x9 x70 x71 w := rfl
abbrev ref13_Plan.p17 (L0 : Option Addr → Nat → Nat → Option Addr → Nat → Nat → Int → World → Prop) (K : Value → World → Prop) (x4A : Option Addr) (x4n : Nat) (x4c : Nat) (x5A : Option Addr) (x5n : Nat) (x5c : Nat) (x6 : Int) (x7A : Option Addr) (x7n : Nat) (x7c : Nat) (x8A : Option Addr) (x8n : Nat) (x8c : Nat) (x9 : Int) (x70 : Int) (x71 : Int) (w : World) : Prop :=
  ∃ k, ref13_Plan.l3 L0 K k x4A x4n x4c x5A x5n x5c x6 x7A x7n x7c x8A x8n x8c x9 x70 x71 w
abbrev ref13_Plan.p16 (L0 : Option Addr → Nat → Nat → Option Addr → Nat → Nat → Int → World → Prop) (K : Value → World → Prop) (x4A : Option Addr) (x4n : Nat) (x4c : Nat) (x5A : Option Addr) (x5n : Nat) (x5c : Nat) (x6 : Int) (x7A : Option Addr) (x7n : Nat) (x7c : Nat) (x8A : Option Addr) (x8n : Nat) (x8c : Nat) (x9 : Int) (w : World) : Prop :=
  ref13_Plan.p17 L0 K x4A x4n x4c x5A x5n x5c x6 x7A x7n x7c x8A x8n x8c x9 ((x8n : Nat) : Int) 0 w
abbrev ref13_Plan.p8 (L1 : Option Addr → Nat → Nat → Option Addr → Nat → Nat → Int → Option Addr → Nat → Nat → Option Addr → Nat → Nat → Int → Option Addr → Nat → Nat → Int → Int → World → Prop) (L0 : Option Addr → Nat → Nat → Option Addr → Nat → Nat → Int → World → Prop) (K : Value → World → Prop) (x4A : Option Addr) (x4n : Nat) (x4c : Nat) (x5A : Option Addr) (x5n : Nat) (x5c : Nat) (x6 : Int) (x7A : Option Addr) (x7n : Nat) (x7c : Nat) (x8A : Option Addr) (x8n : Nat) (x8c : Nat) (x9 : Int) (x31A : Option Addr) (x31n : Nat) (x31c : Nat) (x32 : Int) (x33 : Int) (x34 : Bool) (w : World) : Prop :=
  condP x34 (ref13_Plan.p9 L1 L0 K x4A x4n x4c x5A x5n x5c x6 x7A x7n x7c x8A x8n x8c x9 x31A x31n x31c x32 x33 w) (ref13_Plan.p16 L0 K x4A x4n x4c x5A x5n x5c x6 x7A x7n x7c x8A x8n x8c x9 w)
abbrev ref13_Plan.b1 (L1 : Option Addr → Nat → Nat → Option Addr → Nat → Nat → Int → Option Addr → Nat → Nat → Option Addr → Nat → Nat → Int → Option Addr → Nat → Nat → Int → Int → World → Prop) (L0 : Option Addr → Nat → Nat → Option Addr → Nat → Nat → Int → World → Prop) (K : Value → World → Prop) (x4A : Option Addr) (x4n : Nat) (x4c : Nat) (x5A : Option Addr) (x5n : Nat) (x5c : Nat) (x6 : Int) (x7A : Option Addr) (x7n : Nat) (x7c : Nat) (x8A : Option Addr) (x8n : Nat) (x8c : Nat) (x9 : Int) (x31A : Option Addr) (x31n : Nat) (x31c : Nat) (x32 : Int) (x33 : Int) (w : World) : Prop :=
  ref13_Plan.p8 L1 L0 K x4A x4n x4c x5A x5n x5c x6 x7A x7n x7c x8A x8n x8c x9 x31A x31n x31c x32 x33 (decide (x33 < x32)) w
def ref13_Plan.l1 (L0 : Option Addr → Nat → Nat → Option Addr → Nat → Nat → Int → World → Prop) (K : Value → World → Prop) (k : Nat) : Option Addr → Nat → Nat → Option Addr → Nat → Nat → Int → Option Addr → Nat → Nat → Option Addr → Nat → Nat → Int → Option Addr → Nat → Nat → Int → Int → World → Prop :=
  Nat.rec (motive := fun _ => Option Addr → Nat → Nat → Option Addr → Nat → Nat → Int → Option Addr → Nat → Nat → Option Addr → Nat → Nat → Int → Option Addr → Nat → Nat → Int → Int → World → Prop) (fun _ _ _ _ _ _ _ _ _ _ _ _ _ _ _ _ _ _ _ _ => False) (fun _ ih => ref13_Plan.b1 ih L0 K) k
theorem ref13_Plan.l1_succ (L0 : Option Addr → Nat → Nat → Option Addr → Nat → Nat → Int → World → Prop) (K : Value → World → Prop) (k : Nat) (x4A : Option Addr) (x4n : Nat) (x4c : Nat) (x5A : Option Addr) (x5n : Nat) (x5c : Nat) (x6 : Int) (x7A : Option Addr) (x7n : Nat) (x7c : Nat) (x8A : Option Addr) (x8n : Nat) (x8c : Nat) (x9 : Int) (x31A : Option Addr) (x31n : Nat) (x31c : Nat) (x32 : Int) (x33 : Int) (w : World) : ref13_Plan.l1 L0 K (k + 1) x4A x4n x4c x5A x5n x5c x6 x7A x7n x7c x8A x8n x8c x9 x31A x31n x31c x32 x33 w = ref13_Plan.b1 (ref13_Plan.l1 L0 K k) L0 K x4A x4n x4c x5A x5n x5c x6 x7A x7n x7c x8A x8n x8c x9 x31A x31n x31c x32 x33 w := rfl
abbrev ref13_Plan.p7 (L0 : Option Addr → Nat → Nat → Option Addr → Nat → Nat → Int → World → Prop) (K : Value → World → Prop) (x4A : Option Addr) (x4n : Nat) (x4c : Nat) (x5A : Option Addr) (x5n : Nat) (x5c : Nat) (x6 : Int) (x7A : Option Addr) (x7n : Nat) (x7c : Nat) (x8A : Option Addr) (x8n : Nat) (x8c : Nat) (x9 : Int) (x31A : Option Addr) (x31n : Nat) (x31c : Nat) (x32 : Int) (x33 : Int) (w : World) : Prop :=
  ∃ k, ref13_Plan.l1 L0 K k x4A x4n x4c x5A x5n x5c x6 x7A x7n x7c x8A x8n x8c x9 x31A x31n x31c x32 x33 w
abbrev ref13_Plan.p6 (L0 : Option Addr → Nat → Nat → Option Addr → Nat → Nat → Int → World → Prop) (K : Value → World → Prop) (x4A : Option Addr) (x4n : Nat) (x4c : Nat) (x5A : Option Addr) (x5n : Nat) (x5c : Nat) (x6 : Int) (x7A : Option Addr) (x7n : Nat) (x7c : Nat) (x8A : Option Addr) (x8n : Nat) (x8c : Nat) (x9 : Int) (w : World) : Prop :=
  ref13_Plan.p7 L0 K x4A x4n x4c x5A x5n x5c x6 x7A x7n x7c x8A x8n x8c x9 x4A x4n x4c ((x4n : Nat) : Int) 0 w
abbrev ref13_Plan.p5 (L0 : Option Addr → Nat → Nat → Option Addr → Nat → Nat → Int → World → Prop) (K : Value → World → Prop) (x4A : Option Addr) (x4n : Nat) (x4c : Nat) (x5A : Option Addr) (x5n : Nat) (x5c : Nat) (x6 : Int) (x7A : Option Addr) (x7n : Nat) (x7c : Nat) (x8A : Option Addr) (x8n : Nat) (x8c : Nat) (w : World) : Prop :=
  CallsE Tryd.prog 32 #[.int .i64 x6] w (fun v6 w7 => ∃ (n8 : Int), v6 = .int .i64 n8 ∧ ref13_Plan.p6 L0 K x4A x4n x4c x5A x5n x5c x6 x7A x7n x7c x8A x8n x8c n8 w7)
abbrev ref13_Plan.p4 (L0 : Option Addr → Nat → Nat → Option Addr → Nat → Nat → Int → World → Prop) (K : Value → World → Prop) (x4A : Option Addr) (x4n : Nat) (x4c : Nat) (x5A : Option Addr) (x5n : Nat) (x5c : Nat) (x6 : Int) (w : World) : Prop :=
  ref13_Plan.p5 L0 K x4A x4n x4c x5A x5n x5c x6 none 0 0 none 0 0 w
abbrev ref13_Plan.p29 (L4 : Option Addr → Nat → Nat → Option Addr → Nat → Nat → Int → Option Addr → Nat → Nat → Int → Int → World → Prop) (K : Value → World → Prop) (x5A : Option Addr) (x5n : Nat) (x5c : Nat) (x18A : Option Addr) (x18n : Nat) (x18c : Nat) (x19 : Int) (x124A : Option Addr) (x124n : Nat) (x124c : Nat) (x125 : Int) (x126 : Int) (w : World) : Prop :=
  L4 x5A x5n x5c x18A x18n x18c x19 x124A x124n x124c x125 (IntKind.wrap .i64 (x126 + (1 : Int))) w
abbrev ref13_Plan.p32 (L4 : Option Addr → Nat → Nat → Option Addr → Nat → Nat → Int → Option Addr → Nat → Nat → Int → Int → World → Prop) (K : Value → World → Prop) (x5A : Option Addr) (x5n : Nat) (x5c : Nat) (x18A : Option Addr) (x18n : Nat) (x18c : Nat) (x19 : Int) (x21 : Addr) (x22 : Int) (x124A : Option Addr) (x124n : Nat) (x124c : Nat) (x125 : Int) (x126 : Int) (w : World) : Prop :=
  canStore w x21 ∧ wlet (w.setCell x21 (.int .i64 x19)) fun w102 => ∃ (n103 : Int), w102.cell? x21 = some (.int .i64 n103) ∧ ∃ (n104 : Int), w102.cell? (x21.add 1) = some (.int .i64 n104) ∧ ∃ (n105 : Int), w102.cell? (x21.add 2) = some (.int .i64 n105) ∧ ∃ (A106 : Option Addr) (m107 : Nat) (c108 : Nat), w102.cell? (x21.add 3) = some (.slice A106 m107 c108) ∧ wlet (w102.alloc (.cells #[.int .i64 n103, .int .i64 n104, .int .i64 n105, .slice A106 m107 c108] 46)) fun w109 => SemJ Tryd.prog (Builtin.append_ #[28, 28] 28 #[.slice x18A x18n x18c, .slice (some ⟨w102.heap.size, 0, none⟩) 1 1]) (fun v110 w111 => ∃ (A112 : Option Addr) (m113 : Nat) (c114 : Nat), v110 = .slice A112 m113 c114 ∧ ref13_Plan.p29 L4 K x5A x5n x5c A112 m113 c114 (IntKind.wrap .i64 (x19 + x22)) x124A x124n x124c x125 x126 w111) w109
abbrev ref13_Plan.p31 (L4 : Option Addr → Nat → Nat → Option Addr → Nat → Nat → Int → Option Addr → Nat → Nat → Int → Int → World → Prop) (K : Value → World → Prop) (x5A : Option Addr) (x5n : Nat) (x5c : Nat) (x18A : Option Addr) (x18n : Nat) (x18c : Nat) (x19 : Int) (x21 : Addr) (x22 : Int) (x124A : Option Addr) (x124n : Nat) (x124c : Nat) (x125 : Int) (x126 : Int) (w : World) : Prop :=
  ∃ (n94 : Int), w.cell? x21 = some (.int .i64 n94) ∧ condP (n94 != x19) (∃ (n95 : Int), w.cell? x21 = some (.int .i64 n95) ∧ wlet (w.alloc (.cells #[.int .i64 (IntKind.wrap .i64 ((256 : Int) * n95)), .int .i64 (IntKind.wrap .i64 ((256 : Int) * x19)), .int .i64 (IntKind.wrap .i64 ((256 : Int) * x22))] 25)) fun w96 => SemJ Tryd.prog (Builtin.append_ #[22, 22] 22 #[.slice x5A x5n x5c, .slice (some ⟨w.heap.size, 0, none⟩) 1 1]) (fun v97 w98 => ∃ (A99 : Option Addr) (m100 : Nat) (c101 : Nat), v97 = .slice A99 m100 c101 ∧ ref13_Plan.p32 L4 K A99 m100 c101 x18A x18n x18c x19 x21 x22 x124A x124n x124c x125 x126 w98) w96) (ref13_Plan.p32 L4 K x5A x5n x5c x18A x18n x18c x19 x21 x22 x124A x124n x124c x125 x126 w)
abbrev ref13_Plan.p30 (L4 : Option Addr → Nat → Nat → Option Addr → Nat → Nat → Int → Option Addr → Nat → Nat → Int → Int → World → Prop) (K : Value → World → Prop) (x5A : Option Addr) (x5n : Nat) (x5c : Nat) (x18A : Option Addr) (x18n : Nat) (x18c : Nat) (x19 : Int) (x21 : Addr) (x124A : Option Addr) (x124n : Nat) (x124c : Nat) (x125 : Int) (x126 : Int) (w : World) : Prop :=
  ∃ (n89 : Int), w.cell? (x21.add 1) = some (.int .i64 n89) ∧ ∃ (n90 : Int), w.cell? (x21.add 2) = some (.int .i64 n90) ∧ CallsE Tryd.prog 34 #[.int .i64 n89, .int .i64 n90] w (fun v91 w92 => ∃ (n93 : Int), v91 = .int .i64 n93 ∧ ref13_Plan.p31 L4 K x5A x5n x5c x18A x18n x18c x19 x21 n93 x124A x124n x124c x125 x126 w92)
abbrev ref13_Plan.p28 (L4 : Option Addr → Nat → Nat → Option Addr → Nat → Nat → Int → Option Addr → Nat → Nat → Int → Int → World → Prop) (K : Value → World → Prop) (x5A : Option Addr) (x5n : Nat) (x5c : Nat) (x18A : Option Addr) (x18n : Nat) (x18c : Nat) (x19 : Int) (x21 : Addr) (x124A : Option Addr) (x124n : Nat) (x124c : Nat) (x125 : Int) (x126 : Int) (w : World) : Prop :=
  ∃ (A86 : Option Addr) (m87 : Nat) (c88 : Nat), w.cell? (x21.add 3) = some (.slice A86 m87 c88) ∧ condP (((m87 : Nat) : Int) == (0 : Int)) (ref13_Plan.p29 L4 K x5A x5n x5c x18A x18n x18c x19 x124A x124n x124c x125 x126 w) (ref13_Plan.p30 L4 K x5A x5n x5c x18A x18n x18c x19 x21 x124A x124n x124c x125 x126 w)
abbrev ref13_Plan.p27 (L4 : Option Addr → Nat → Nat → Option Addr → Nat → Nat → Int → Option Addr → Nat → Nat → Int → Int → World → Prop) (K : Value → World → Prop) (x5A : Option Addr) (x5n : Nat) (x5c : Nat) (x18A : Option Addr) (x18n : Nat) (x18c : Nat) (x19 : Int) (x124A : Option Addr) (x124n : Nat) (x124c : Nat) (x125 : Int) (x126 : Int) (w : World) : Prop :=
  (0 ≤ x126 ∧ x126 < ((x124n : Nat) : Int)) ∧ ∃ (a74 : Addr), x124A = some a74 ∧ ∃ (n75 : Int), w.cell? (a74.add (x126.toNat * 4)) = some (.int .i64 n75) ∧ ∃ (n76 : Int), w.cell? ((a74.add (x126.toNat * 4)).add 1) = some (.int .i64 n76) ∧ ∃ (n77 : Int), w.cell? ((a74.add (x126.toNat * 4)).add 2) = some (.int .i64 n77) ∧ ∃ (A78 : Option Addr) (m79 : Nat) (c80 : Nat), w.cell? ((a74.add (x126.toNat * 4)).add 3) = some (.slice A78 m79 c80) ∧ wlet (w.alloc (.cells #[.int .i64 0, .int .i64 0, .int .i64 0, .slice none 0 0] 46)) fun w81 => canStore w81 (⟨w.heap.size, 0, none⟩) ∧ wlet (w81.setCell (⟨w.heap.size, 0, none⟩) (.int .i64 n75)) fun w82 => canStore w82 (⟨w.heap.size, 1, none⟩) ∧ wlet (w82.setCell (⟨w.heap.size, 1, none⟩) (.int .i64 n76)) fun w83 => canStore w83 (⟨w.heap.size, 2, none⟩) ∧ wlet (w83.setCell (⟨w.heap.size, 2, none⟩) (.int .i64 n77)) fun w84 => canStore w84 (⟨w.heap.size, 3, none⟩) ∧ wlet (w84.setCell (⟨w.heap.size, 3, none⟩) (.slice A78 m79 c80)) fun w85 => ref13_Plan.p28 L4 K x5A x5n x5c x18A x18n x18c x19 (⟨w.heap.size, 0, none⟩) x124A x124n x124c x125 x126 w85
abbrev ref13_Plan.p33 (K : Value → World → Prop) (x5A : Option Addr) (x5n : Nat) (x5c : Nat) (x18A : Option Addr) (x18n : Nat) (x18c : Nat) (w : World) : Prop :=
  K (.tuple #[.slice x18A x18n x18c, .slice x5A x5n x5c]) w
abbrev ref13_Plan.p26 (L4 : Option Addr → Nat → Nat → Option Addr → Nat → Nat → Int → Option Addr → Nat → Nat → Int → Int → World → Prop) (K : Value → World → Prop) (x5A : Option Addr) (x5n : Nat) (x5c : Nat) (x18A : Option Addr) (x18n : Nat) (x18c : Nat) (x19 : Int) (x124A : Option Addr) (x124n : Nat) (x124c : Nat) (x125 : Int) (x126 : Int) (x127 : Bool) (w : World) : Prop :=
  condP x127 (ref13_Plan.p27 L4 K x5A x5n x5c x18A x18n x18c x19 x124A x124n x124c x125 x126 w) (ref13_Plan.p33 K x5A x5n x5c x18A x18n x18c w)
abbrev ref13_Plan.b4 (L4 : Option Addr → Nat → Nat → Option Addr → Nat → Nat → Int → Option Addr → Nat → Nat → Int → Int → World → Prop) (K : Value → World → Prop) (x5A : Option Addr) (x5n : Nat) (x5c : Nat) (x18A : Option Addr) (x18n : Nat) (x18c : Nat) (x19 : Int) (x124A : Option Addr) (x124n : Nat) (x124c : Nat) (x125 : Int) (x126 : Int) (w : World) : Prop :=
  ref13_Plan.p26 L4 K x5A x5n x5c x18A x18n x18c x19 x124A x124n x124c x125 x126 (decide (x126 < x125)) w
def ref13_Plan.l4 (K : Value → World → Prop) (k : Nat) : Option Addr → Nat → Nat → Option Addr → Nat → Nat → Int → Option Addr → Nat → Nat → Int → Int → World → Prop :=
  Nat.rec (motive := fun _ => Option Addr → Nat → Nat → Option Addr → Nat → Nat → Int → Option Addr → Nat → Nat → Int → Int → World → Prop) (fun _ _ _ _ _ _ _ _ _ _ _ _ _ => False) (fun _ ih => ref13_Plan.b4 ih K) k
theorem ref13_Plan.l4_succ (K : Value → World → Prop) (k : Nat) (x5A : Option Addr) (x5n : Nat) (x5c : Nat) (x18A : Option Addr) (x18n : Nat) (x18c : Nat) (x19 : Int) (x124A : Option Addr) (x124n : Nat) (x124c : Nat) (x125 : Int) (x126 : Int) (w : World) : ref13_Plan.l4 K (k + 1) x5A x5n x5c x18A x18n x18c x19 x124A x124n x124c x125 x126 w = ref13_Plan.b4 (ref13_Plan.l4 K k) K x5A x5n x5c x18A x18n x18c x19 x124A x124n x124c x125 x126 w := rfl
abbrev ref13_Plan.p25 (K : Value → World → Prop) (x5A : Option Addr) (x5n : Nat) (x5c : Nat) (x18A : Option Addr) (x18n : Nat) (x18c : Nat) (x19 : Int) (x124A : Option Addr) (x124n : Nat) (x124c : Nat) (x125 : Int) (x126 : Int) (w : World) : Prop :=
  ∃ k, ref13_Plan.l4 K k x5A x5n x5c x18A x18n x18c x19 x124A x124n x124c x125 x126 w
abbrev ref13_Plan.p24 (K : Value → World → Prop) (x4A : Option Addr) (x4n : Nat) (x4c : Nat) (x5A : Option Addr) (x5n : Nat) (x5c : Nat) (x18A : Option Addr) (x18n : Nat) (x18c : Nat) (x19 : Int) (w : World) : Prop :=
  ref13_Plan.p25 K x5A x5n x5c x18A x18n x18c x19 x4A x4n x4c ((x4n : Nat) : Int) 0 w
abbrev ref13_Plan.p23 (K : Value → World → Prop) (x4A : Option Addr) (x4n : Nat) (x4c : Nat) (x5A : Option Addr) (x5n : Nat) (x5c : Nat) (x18A : Option Addr) (x18n : Nat) (x18c : Nat) (w : World) : Prop :=
  ref13_Plan.p24 K x4A x4n x4c x5A x5n x5c x18A x18n x18c 0 w
abbrev ref13_Plan.p22 (K : Value → World → Prop) (x4A : Option Addr) (x4n : Nat) (x4c : Nat) (x5A : Option Addr) (x5n : Nat) (x5c : Nat) (w : World) : Prop :=
  ref13_Plan.p23 K x4A x4n x4c x5A x5n x5c none 0 0 w
abbrev ref13_Plan.b0 (L0 : Option Addr → Nat → Nat → Option Addr → Nat → Nat → Int → World → Prop) (K : Value → World → Prop) (x4A : Option Addr) (x4n : Nat) (x4c : Nat) (x5A : Option Addr) (x5n : Nat) (x5c : Nat) (x6 : Int) (w : World) : Prop :=
  condP (decide (x6 < (7 : Int))) (ref13_Plan.p4 L0 K x4A x4n x4c x5A x5n x5c x6 w) (ref13_Plan.p22 K x4A x4n x4c x5A x5n x5c w)
def ref13_Plan.l0 (K : Value → World → Prop) (k : Nat) : Option Addr → Nat → Nat → Option Addr → Nat → Nat → Int → World → Prop :=
  Nat.rec (motive := fun _ => Option Addr → Nat → Nat → Option Addr → Nat → Nat → Int → World → Prop) (fun _ _ _ _ _ _ _ _ => False) (fun _ ih => ref13_Plan.b0 ih K) k
theorem ref13_Plan.l0_succ (K : Value → World → Prop) (k : Nat) (x4A : Option Addr) (x4n : Nat) (x4c : Nat) (x5A : Option Addr) (x5n : Nat) (x5c : Nat) (x6 : Int) (w : World) : ref13_Plan.l0 K (k + 1) x4A x4n x4c x5A x5n x5c x6 w = ref13_Plan.b0 (ref13_Plan.l0 K k) K x4A x4n x4c x5A x5n x5c x6 w := rfl
abbrev ref13_Plan.p3 (K : Value → World → Prop) (x4A : Option Addr) (x4n : Nat) (x4c : Nat) (x5A : Option Addr) (x5n : Nat) (x5c : Nat) (x6 : Int) (w : World) : Prop :=
  ∃ k, ref13_Plan.l0 K k x4A x4n x4c x5A x5n x5c x6 w
abbrev ref13_Plan.p2 (K : Value → World → Prop) (x4A : Option Addr) (x4n : Nat) (x4c : Nat) (x5A : Option Addr) (x5n : Nat) (x5c : Nat) (w : World) : Prop :=
  ref13_Plan.p3 K x4A x4n x4c x5A x5n x5c 0 w
abbrev ref13_Plan.p1 (K : Value → World → Prop) (x4A : Option Addr) (x4n : Nat) (x4c : Nat) (w : World) : Prop :=
  ref13_Plan.p2 K x4A x4n x4c none 0 0 w
abbrev ref13_Plan.p0 (K : Value → World → Prop) (x0A : Option Addr) (x0n : Nat) (x0c : Nat) (w : World) : Prop :=
  CallsE Tryd.prog 11 #[.slice x0A x0n x0c] w (fun v1 w2 => ∃ (A3 : Option Addr) (m4 : Nat) (c5 : Nat), v1 = .slice A3 m4 c5 ∧ ref13_Plan.p1 K A3 m4 c5 w2)
abbrev ref13_Plan.F (q0A : Option Addr) (q0n : Nat) (q0c : Nat) (K : Value → World → Prop) (w : World) : Prop :=
  ref13_Plan.p0 K q0A q0n q0c w
theorem ref13_Plan.ok {q0A : Option Addr} {q0n : Nat} {q0c : Nat} {K : Value → World → Prop} {w : World} (h : ref13_Plan.F q0A q0n q0c K w) :
    CallsE Tryd.prog 16 #[.slice q0A q0n q0c] w K := by
  refine calls_of_J (n := 166) (rs := [.tmp 2, .tmp 3]) Tryd.func16 rfl rfl rfl rfl ?_
  refine J_seq (fun σ w => vS (σ 0) fun x0A x0n x0c => ref13_Plan.p0 K x0A x0n x0c w) ?_ ?_
  ·
    exact sh_sound _ _ _ _ (Eq.mp (by kernel_rfl) h)
  · intro σ w h
    obtain ⟨x0A, x0n, x0c, e0, h⟩ := vS_elim h
    refine J.sub ?_ ((Sub.base _).upd e0)
    clear e0
    refine J_seq (fun σ w => vS (σ 4) fun x4A x4n x4c => ref13_Plan.p1 K x4A x4n x4c w) ?_ ?_
    ·
      exact sh_sound _ _ _ _ (Eq.mp (by kernel_rfl) h)
    · intro σ w h
      obtain ⟨x4A, x4n, x4c, e4, h⟩ := vS_elim h
      refine J.sub ?_ ((Sub.base _).upd e4)
      clear e4
      refine J_seq (fun σ w => vS (σ 4) fun x4A x4n x4c => vS (σ 5) fun x5A x5n x5c => ref13_Plan.p2 K x4A x4n x4c x5A x5n x5c w) ?_ ?_
      ·
        exact sh_sound _ _ _ _ (Eq.mp (by kernel_rfl) h)
      · intro σ w h
        obtain ⟨x4A, x4n, x4c, e4, h⟩ := vS_elim h
        obtain ⟨x5A, x5n, x5c, e5, h⟩ := vS_elim h
        refine J.sub ?_ (((Sub.base _).upd e4).upd e5)
        clear e4 e5
        refine J_seq (fun σ w => vS (σ 4) fun x4A x4n x4c => vS (σ 5) fun x5A x5n x5c => ref13_Plan.p22 K x4A x4n x4c x5A x5n x5c w) ?_ ?_
        ·
          refine J_seq (fun σ w => vS (σ 4) fun x4A x4n x4c => vS (σ 5) fun x5A x5n x5c => vI .i64 (σ 6) fun x6 => ref13_Plan.p3 K x4A x4n x4c x5A x5n x5c x6 w) ?_ ?_
          ·
            exact sh_sound _ _ _ _ (Eq.mp (by kernel_rfl) h)
          · intro σ w h
            obtain ⟨x4A, x4n, x4c, e4, h⟩ := vS_elim h
            obtain ⟨x5A, x5n, x5c, e5, h⟩ := vS_elim h
            obtain ⟨x6, e6, h⟩ := vI_elim h
            refine J.sub ?_ ((((Sub.base _).upd e4).upd e5).upd e6)
            clear e4 e5 e6
            refine J_block ?_
            refine J_loop (fun k σ w => vS (σ 4) fun x4A x4n x4c => vS (σ 5) fun x5A x5n x5c => vI .i64 (σ 6) fun x6 => ref13_Plan.l0 K k x4A x4n x4c x5A x5n x5c x6 w) (Eq.mp (by kernel_rfl) h) ?_ ?_
            · intro σ w h
              obtain ⟨x4A, x4n, x4c, e4, h⟩ := vS_elim h
              obtain ⟨x5A, x5n, x5c, e5, h⟩ := vS_elim h
              obtain ⟨x6, e6, h⟩ := vI_elim h
              exact h
            · intro k0 σ w h
              obtain ⟨x4A, x4n, x4c, e4, h⟩ := vS_elim h
              obtain ⟨x5A, x5n, x5c, e5, h⟩ := vS_elim h
              obtain ⟨x6, e6, h⟩ := vI_elim h
              refine J.sub ?_ ((((Sub.base _).upd e4).upd e5).upd e6)
              clear e4 e5 e6
              refine J_seq (fun σ w => vS (σ 4) fun x4A x4n x4c => vS (σ 5) fun x5A x5n x5c => vI .i64 (σ 6) fun x6 => ref13_Plan.p4 (ref13_Plan.l0 K k0) K x4A x4n x4c x5A x5n x5c x6 w) ?_ ?_
              ·
                exact sh_sound _ _ _ _ (Eq.mp (by kernel_rfl) h)
              · intro σ w h
                obtain ⟨x4A, x4n, x4c, e4, h⟩ := vS_elim h
                obtain ⟨x5A, x5n, x5c, e5, h⟩ := vS_elim h
                obtain ⟨x6, e6, h⟩ := vI_elim h
                refine J.sub ?_ ((((Sub.base _).upd e4).upd e5).upd e6)
                clear e4 e5 e6
                refine J_seq (fun σ w => vS (σ 4) fun x4A x4n x4c => vS (σ 5) fun x5A x5n x5c => vI .i64 (σ 6) fun x6 => ref13_Plan.p21 (ref13_Plan.l0 K k0) K x4A x4n x4c x5A x5n x5c x6 w) ?_ ?_
                ·
                  refine J_block ?_
                  refine J_seq (fun σ w => vS (σ 4) fun x4A x4n x4c => vS (σ 5) fun x5A x5n x5c => vI .i64 (σ 6) fun x6 => vS (σ 7) fun x7A x7n x7c => vS (σ 8) fun x8A x8n x8c => ref13_Plan.p5 (ref13_Plan.l0 K k0) K x4A x4n x4c x5A x5n x5c x6 x7A x7n x7c x8A x8n x8c w) ?_ ?_
                  ·
                    exact sh_sound _ _ _ _ (Eq.mp (by kernel_rfl) h)
                  · intro σ w h
                    obtain ⟨x4A, x4n, x4c, e4, h⟩ := vS_elim h
                    obtain ⟨x5A, x5n, x5c, e5, h⟩ := vS_elim h
                    obtain ⟨x6, e6, h⟩ := vI_elim h
                    obtain ⟨x7A, x7n, x7c, e7, h⟩ := vS_elim h
                    obtain ⟨x8A, x8n, x8c, e8, h⟩ := vS_elim h
                    refine J.sub ?_ ((((((Sub.base _).upd e4).upd e5).upd e6).upd e7).upd e8)
                    clear e4 e5 e6 e7 e8
                    refine J_seq (fun σ w => vS (σ 4) fun x4A x4n x4c => vS (σ 5) fun x5A x5n x5c => vI .i64 (σ 6) fun x6 => vS (σ 7) fun x7A x7n x7c => vS (σ 8) fun x8A x8n x8c => vI .i64 (σ 9) fun x9 => ref13_Plan.p6 (ref13_Plan.l0 K k0) K x4A x4n x4c x5A x5n x5c x6 x7A x7n x7c x8A x8n x8c x9 w) ?_ ?_
                    ·
                      exact sh_sound _ _ _ _ (Eq.mp (by kernel_rfl) h)
                    · intro σ w h
                      obtain ⟨x4A, x4n, x4c, e4, h⟩ := vS_elim h
                      obtain ⟨x5A, x5n, x5c, e5, h⟩ := vS_elim h
                      obtain ⟨x6, e6, h⟩ := vI_elim h
                      obtain ⟨x7A, x7n, x7c, e7, h⟩ := vS_elim h
                      obtain ⟨x8A, x8n, x8c, e8, h⟩ := vS_elim h
                      obtain ⟨x9, e9, h⟩ := vI_elim h
                      refine J.sub ?_ (((((((Sub.base _).upd e4).upd e5).upd e6).upd e7).upd e8).upd e9)
                      clear e4 e5 e6 e7 e8 e9
                      refine J_seq (fun σ w => vS (σ 4) fun x4A x4n x4c => vS (σ 5) fun x5A x5n x5c => vI .i64 (σ 6) fun x6 => vS (σ 7) fun x7A x7n x7c => vS (σ 8) fun x8A x8n x8c => vI .i64 (σ 9) fun x9 => ref13_Plan.p16 (ref13_Plan.l0 K k0) K x4A x4n x4c x5A x5n x5c x6 x7A x7n x7c x8A x8n x8c x9 w) ?_ ?_
                      ·
                        refine J_seq (fun σ w => vS (σ 4) fun x4A x4n x4c => vS (σ 5) fun x5A x5n x5c => vI .i64 (σ 6) fun x6 => vS (σ 7) fun x7A x7n x7c => vS (σ 8) fun x8A x8n x8c => vI .i64 (σ 9) fun x9 => vS (σ 31) fun x31A x31n x31c => vI .i64 (σ 32) fun x32 => vI .i64 (σ 33) fun x33 => ref13_Plan.p7 (ref13_Plan.l0 K k0) K x4A x4n x4c x5A x5n x5c x6 x7A x7n x7c x8A x8n x8c x9 x31A x31n x31c x32 x33 w) ?_ ?_
                        ·
                          exact sh_sound _ _ _ _ (Eq.mp (by kernel_rfl) h)
                        · intro σ w h
                          obtain ⟨x4A, x4n, x4c, e4, h⟩ := vS_elim h
                          obtain ⟨x5A, x5n, x5c, e5, h⟩ := vS_elim h
                          obtain ⟨x6, e6, h⟩ := vI_elim h
                          obtain ⟨x7A, x7n, x7c, e7, h⟩ := vS_elim h
                          obtain ⟨x8A, x8n, x8c, e8, h⟩ := vS_elim h
                          obtain ⟨x9, e9, h⟩ := vI_elim h
                          obtain ⟨x31A, x31n, x31c, e31, h⟩ := vS_elim h
                          obtain ⟨x32, e32, h⟩ := vI_elim h
                          obtain ⟨x33, e33, h⟩ := vI_elim h
                          refine J.sub ?_ ((((((((((Sub.base _).upd e4).upd e5).upd e6).upd e7).upd e8).upd e9).upd e31).upd e32).upd e33)
                          clear e4 e5 e6 e7 e8 e9 e31 e32 e33
                          refine J_block ?_
                          refine J_loop (fun k σ w => vS (σ 4) fun x4A x4n x4c => vS (σ 5) fun x5A x5n x5c => vI .i64 (σ 6) fun x6 => vS (σ 7) fun x7A x7n x7c => vS (σ 8) fun x8A x8n x8c => vI .i64 (σ 9) fun x9 => vS (σ 31) fun x31A x31n x31c => vI .i64 (σ 32) fun x32 => vI .i64 (σ 33) fun x33 => ref13_Plan.l1 (ref13_Plan.l0 K k0) K k x4A x4n x4c x5A x5n x5c x6 x7A x7n x7c x8A x8n x8c x9 x31A x31n x31c x32 x33 w) (Eq.mp (by kernel_rfl) h) ?_ ?_
                          · intro σ w h
                            obtain ⟨x4A, x4n, x4c, e4, h⟩ := vS_elim h
                            obtain ⟨x5A, x5n, x5c, e5, h⟩ := vS_elim h
                            obtain ⟨x6, e6, h⟩ := vI_elim h
                            obtain ⟨x7A, x7n, x7c, e7, h⟩ := vS_elim h
                            obtain ⟨x8A, x8n, x8c, e8, h⟩ := vS_elim h
                            obtain ⟨x9, e9, h⟩ := vI_elim h
                            obtain ⟨x31A, x31n, x31c, e31, h⟩ := vS_elim h
                            obtain ⟨x32, e32, h⟩ := vI_elim h
                            obtain ⟨x33, e33, h⟩ := vI_elim h
                            exact h
                          · intro k1 σ w h
                            obtain ⟨x4A, x4n, x4c, e4, h⟩ := vS_elim h
                            obtain ⟨x5A, x5n, x5c, e5, h⟩ := vS_elim h
                            obtain ⟨x6, e6, h⟩ := vI_elim h
                            obtain ⟨x7A, x7n, x7c, e7, h⟩ := vS_elim h
                            obtain ⟨x8A, x8n, x8c, e8, h⟩ := vS_elim h
                            obtain ⟨x9, e9, h⟩ := vI_elim h
                            obtain ⟨x31A, x31n, x31c, e31, h⟩ := vS_elim h
                            obtain ⟨x32, e32, h⟩ := vI_elim h
                            obtain ⟨x33, e33, h⟩ := vI_elim h
                            refine J.sub ?_ ((((((((((Sub.base _).upd e4).upd e5).upd e6).upd e7).upd e8).upd e9).upd e31).upd e32).upd e33)
                            clear e4 e5 e6 e7 e8 e9 e31 e32 e33
                            refine J_seq (fun σ w => vS (σ 4) fun x4A x4n x4c => vS (σ 5) fun x5A x5n x5c => vI .i64 (σ 6) fun x6 => vS (σ 7) fun x7A x7n x7c => vS (σ 8) fun x8A x8n x8c => vI .i64 (σ 9) fun x9 => vS (σ 31) fun x31A x31n x31c => vI .i64 (σ 32) fun x32 => vI .i64 (σ 33) fun x33 => vB (σ 34) fun x34 => ref13_Plan.p8 (ref13_Plan.l1 (ref13_Plan.l0 K k0) K k1) (ref13_Plan.l0 K k0) K x4A x4n x4c x5A x5n x5c x6 x7A x7n x7c x8A x8n x8c x9 x31A x31n x31c x32 x33 x34 w) ?_ ?_
                            ·
                              exact sh_sound _ _ _ _ (Eq.mp (by kernel_rfl) h)
                            · intro σ w h
                              obtain ⟨x4A, x4n, x4c, e4, h⟩ := vS_elim h
                              obtain ⟨x5A, x5n, x5c, e5, h⟩ := vS_elim h
                              obtain ⟨x6, e6, h⟩ := vI_elim h
                              obtain ⟨x7A, x7n, x7c, e7, h⟩ := vS_elim h
                              obtain ⟨x8A, x8n, x8c, e8, h⟩ := vS_elim h
                              obtain ⟨x9, e9, h⟩ := vI_elim h
                              obtain ⟨x31A, x31n, x31c, e31, h⟩ := vS_elim h
                              obtain ⟨x32, e32, h⟩ := vI_elim h
                              obtain ⟨x33, e33, h⟩ := vI_elim h
                              obtain ⟨x34, e34, h⟩ := vB_elim h
                              refine J.sub ?_ (((((((((((Sub.base _).upd e4).upd e5).upd e6).upd e7).upd e8).upd e9).upd e31).upd e32).upd e33).upd e34)
                              clear e4 e5 e6 e7 e8 e9 e31 e32 e33 e34
                              refine J_seq (fun σ w => vS (σ 4) fun x4A x4n x4c => vS (σ 5) fun x5A x5n x5c => vI .i64 (σ 6) fun x6 => vS (σ 7) fun x7A x7n x7c => vS (σ 8) fun x8A x8n x8c => vI .i64 (σ 9) fun x9 => vS (σ 31) fun x31A x31n x31c => vI .i64 (σ 32) fun x32 => vI .i64 (σ 33) fun x33 => ref13_Plan.p9 (ref13_Plan.l1 (ref13_Plan.l0 K k0) K k1) (ref13_Plan.l0 K k0) K x4A x4n x4c x5A x5n x5c x6 x7A x7n x7c x8A x8n x8c x9 x31A x31n x31c x32 x33 w) ?_ ?_
                              ·
                                exact sh_sound _ _ _ _ (Eq.mp (by kernel_rfl) h)
                              · intro σ w h
                                obtain ⟨x4A, x4n, x4c, e4, h⟩ := vS_elim h
                                obtain ⟨x5A, x5n, x5c, e5, h⟩ := vS_elim h
                                obtain ⟨x6, e6, h⟩ := vI_elim h
                                obtain ⟨x7A, x7n, x7c, e7, h⟩ := vS_elim h
                                obtain ⟨x8A, x8n, x8c, e8, h⟩ := vS_elim h
                                obtain ⟨x9, e9, h⟩ := vI_elim h
                                obtain ⟨x31A, x31n, x31c, e31, h⟩ := vS_elim h
                                obtain ⟨x32, e32, h⟩ := vI_elim h
                                obtain ⟨x33, e33, h⟩ := vI_elim h
                                refine J.sub ?_ ((((((((((Sub.base _).upd e4).upd e5).upd e6).upd e7).upd e8).upd e9).upd e31).upd e32).upd e33)
                                clear e4 e5 e6 e7 e8 e9 e31 e32 e33
                                refine J_seq (fun σ w => vS (σ 4) fun x4A x4n x4c => vS (σ 5) fun x5A x5n x5c => vI .i64 (σ 6) fun x6 => vS (σ 7) fun x7A x7n x7c => vS (σ 8) fun x8A x8n x8c => vI .i64 (σ 9) fun x9 => vS (σ 31) fun x31A x31n x31c => vI .i64 (σ 32) fun x32 => vI .i64 (σ 33) fun x33 => ref13_Plan.p11 (ref13_Plan.l1 (ref13_Plan.l0 K k0) K k1) (ref13_Plan.l0 K k0) K x4A x4n x4c x5A x5n x5c x6 x7A x7n x7c x8A x8n x8c x9 x31A x31n x31c x32 x33 w) ?_ ?_
                                ·
                                  refine J_block ?_
                                  refine J_seq (fun σ w => vS (σ 4) fun x4A x4n x4c => vS (σ 5) fun x5A x5n x5c => vI .i64 (σ 6) fun x6 => vS (σ 7) fun x7A x7n x7c => vS (σ 8) fun x8A x8n x8c => vI .i64 (σ 9) fun x9 => vI .i64 (σ 10) fun x10 => vPa (σ 11) fun x11 => vS (σ 31) fun x31A x31n x31c => vI .i64 (σ 32) fun x32 => vI .i64 (σ 33) fun x33 => ref13_Plan.p10 (ref13_Plan.l1 (ref13_Plan.l0 K k0) K k1) (ref13_Plan.l0 K k0) K x4A x4n x4c x5A x5n x5c x6 x7A x7n x7c x8A x8n x8c x9 x10 x11 x31A x31n x31c x32 x33 w) ?_ ?_
                                  ·
                                    exact sh_sound _ _ _ _ (Eq.mp (by kernel_rfl) h)
                                  · intro σ w h
                                    obtain ⟨x4A, x4n, x4c, e4, h⟩ := vS_elim h
                                    obtain ⟨x5A, x5n, x5c, e5, h⟩ := vS_elim h
                                    obtain ⟨x6, e6, h⟩ := vI_elim h
                                    obtain ⟨x7A, x7n, x7c, e7, h⟩ := vS_elim h
                                    obtain ⟨x8A, x8n, x8c, e8, h⟩ := vS_elim h
                                    obtain ⟨x9, e9, h⟩ := vI_elim h
                                    obtain ⟨x10, e10, h⟩ := vI_elim h
                                    obtain ⟨x11, e11, h⟩ := vPa_elim h
                                    obtain ⟨x31A, x31n, x31c, e31, h⟩ := vS_elim h
                                    obtain ⟨x32, e32, h⟩ := vI_elim h
                                    obtain ⟨x33, e33, h⟩ := vI_elim h
                                    refine J.sub ?_ ((((((((((((Sub.base _).upd e4).upd e5).upd e6).upd e7).upd e8).upd e9).upd e10).upd e11).upd e31).upd e32).upd e33)
                                    clear e4 e5 e6 e7 e8 e9 e10 e11 e31 e32 e33
                                    refine J_seq (fun σ w => vS (σ 4) fun x4A x4n x4c => vS (σ 5) fun x5A x5n x5c => vI .i64 (σ 6) fun x6 => vS (σ 7) fun x7A x7n x7c => vS (σ 8) fun x8A x8n x8c => vI .i64 (σ 9) fun x9 => vI .i64 (σ 10) fun x10 => vPa (σ 11) fun x11 => vS (σ 31) fun x31A x31n x31c => vI .i64 (σ 32) fun x32 => vI .i64 (σ 33) fun x33 => ref13_Plan.p12 (ref13_Plan.l1 (ref13_Plan.l0 K k0) K k1) (ref13_Plan.l0 K k0) K x4A x4n x4c x5A x5n x5c x6 x7A x7n x7c x8A x8n x8c x9 x10 x11 x31A x31n x31c x32 x33 w) ?_ ?_
                                    ·
                                      exact sh_sound _ _ _ _ (Eq.mp (by kernel_rfl) h)
                                    · intro σ w h
                                      obtain ⟨x4A, x4n, x4c, e4, h⟩ := vS_elim h
                                      obtain ⟨x5A, x5n, x5c, e5, h⟩ := vS_elim h
                                      obtain ⟨x6, e6, h⟩ := vI_elim h
                                      obtain ⟨x7A, x7n, x7c, e7, h⟩ := vS_elim h
                                      obtain ⟨x8A, x8n, x8c, e8, h⟩ := vS_elim h
                                      obtain ⟨x9, e9, h⟩ := vI_elim h
                                      obtain ⟨x10, e10, h⟩ := vI_elim h
                                      obtain ⟨x11, e11, h⟩ := vPa_elim h
                                      obtain ⟨x31A, x31n, x31c, e31, h⟩ := vS_elim h
                                      obtain ⟨x32, e32, h⟩ := vI_elim h
                                      obtain ⟨x33, e33, h⟩ := vI_elim h
                                      refine J.sub ?_ ((((((((((((Sub.base _).upd e4).upd e5).upd e6).upd e7).upd e8).upd e9).upd e10).upd e11).upd e31).upd e32).upd e33)
                                      clear e4 e5 e6 e7 e8 e9 e10 e11 e31 e32 e33
                                      refine J_seq (fun σ w => vS (σ 4) fun x4A x4n x4c => vS (σ 5) fun x5A x5n x5c => vI .i64 (σ 6) fun x6 => vS (σ 7) fun x7A x7n x7c => vS (σ 8) fun x8A x8n x8c => vI .i64 (σ 9) fun x9 => vI .i64 (σ 10) fun x10 => vPa (σ 11) fun x11 => vS (σ 31) fun x31A x31n x31c => vI .i64 (σ 32) fun x32 => vI .i64 (σ 33) fun x33 => ref13_Plan.p13 (ref13_Plan.l1 (ref13_Plan.l0 K k0) K k1) (ref13_Plan.l0 K k0) K x4A x4n x4c x5A x5n x5c x6 x7A x7n x7c x8A x8n x8c x9 x10 x11 x31A x31n x31c x32 x33 w) ?_ ?_
                                      ·
                                        exact sh_sound _ _ _ _ (Eq.mp (by kernel_rfl) h)
                                      · intro σ w h
                                        obtain ⟨x4A, x4n, x4c, e4, h⟩ := vS_elim h
                                        obtain ⟨x5A, x5n, x5c, e5, h⟩ := vS_elim h
                                        obtain ⟨x6, e6, h⟩ := vI_elim h
                                        obtain ⟨x7A, x7n, x7c, e7, h⟩ := vS_elim h
                                        obtain ⟨x8A, x8n, x8c, e8, h⟩ := vS_elim h
                                        obtain ⟨x9, e9, h⟩ := vI_elim h
                                        obtain ⟨x10, e10, h⟩ := vI_elim h
                                        obtain ⟨x11, e11, h⟩ := vPa_elim h
                                        obtain ⟨x31A, x31n, x31c, e31, h⟩ := vS_elim h
                                        obtain ⟨x32, e32, h⟩ := vI_elim h
                                        obtain ⟨x33, e33, h⟩ := vI_elim h
                                        refine J.sub ?_ ((((((((((((Sub.base _).upd e4).upd e5).upd e6).upd e7).upd e8).upd e9).upd e10).upd e11).upd e31).upd e32).upd e33)
                                        clear e4 e5 e6 e7 e8 e9 e10 e11 e31 e32 e33
                                        refine J_seq (fun σ w => vS (σ 4) fun x4A x4n x4c => vS (σ 5) fun x5A x5n x5c => vI .i64 (σ 6) fun x6 => vS (σ 7) fun x7A x7n x7c => vS (σ 8) fun x8A x8n x8c => vI .i64 (σ 9) fun x9 => vI .i64 (σ 10) fun x10 => vS (σ 31) fun x31A x31n x31c => vI .i64 (σ 32) fun x32 => vI .i64 (σ 33) fun x33 => ref13_Plan.p15 (ref13_Plan.l1 (ref13_Plan.l0 K k0) K k1) (ref13_Plan.l0 K k0) K x4A x4n x4c x5A x5n x5c x6 x7A x7n x7c x8A x8n x8c x9 x10 x31A x31n x31c x32 x33 w) ?_ ?_
                                        ·
                                          refine J_seq (fun σ w => vS (σ 4) fun x4A x4n x4c => vS (σ 5) fun x5A x5n x5c => vI .i64 (σ 6) fun x6 => vS (σ 7) fun x7A x7n x7c => vS (σ 8) fun x8A x8n x8c => vI .i64 (σ 9) fun x9 => vI .i64 (σ 10) fun x10 => vPa (σ 11) fun x11 => vS (σ 31) fun x31A x31n x31c => vI .i64 (σ 32) fun x32 => vI .i64 (σ 33) fun x33 => vS (σ 47) fun x47A x47n x47c => vI .i64 (σ 48) fun x48 => vI .i64 (σ 49) fun x49 => ref13_Plan.p14 (ref13_Plan.l1 (ref13_Plan.l0 K k0) K k1) (ref13_Plan.l0 K k0) K x4A x4n x4c x5A x5n x5c x6 x7A x7n x7c x8A x8n x8c x9 x10 x11 x31A x31n x31c x32 x33 x47A x47n x47c x48 x49 w) ?_ ?_
                                          ·
                                            exact sh_sound _ _ _ _ (Eq.mp (by kernel_rfl) h)
                                          · intro σ w h
                                            obtain ⟨x4A, x4n, x4c, e4, h⟩ := vS_elim h
                                            obtain ⟨x5A, x5n, x5c, e5, h⟩ := vS_elim h
                                            obtain ⟨x6, e6, h⟩ := vI_elim h
                                            obtain ⟨x7A, x7n, x7c, e7, h⟩ := vS_elim h
                                            obtain ⟨x8A, x8n, x8c, e8, h⟩ := vS_elim h
                                            obtain ⟨x9, e9, h⟩ := vI_elim h
                                            obtain ⟨x10, e10, h⟩ := vI_elim h
                                            obtain ⟨x11, e11, h⟩ := vPa_elim h
                                            obtain ⟨x31A, x31n, x31c, e31, h⟩ := vS_elim h
                                            obtain ⟨x32, e32, h⟩ := vI_elim h
                                            obtain ⟨x33, e33, h⟩ := vI_elim h
                                            obtain ⟨x47A, x47n, x47c, e47, h⟩ := vS_elim h
                                            obtain ⟨x48, e48, h⟩ := vI_elim h
                                            obtain ⟨x49, e49, h⟩ := vI_elim h
                                            refine J.sub ?_ (((((((((((((((Sub.base _).upd e4).upd e5).upd e6).upd e7).upd e8).upd e9).upd e10).upd e11).upd e31).upd e32).upd e33).upd e47).upd e48).upd e49)
                                            clear e4 e5 e6 e7 e8 e9 e10 e11 e31 e32 e33 e47 e48 e49
                                            refine J_block ?_
                                            refine J_loop (fun k σ w => vS (σ 4) fun x4A x4n x4c => vS (σ 5) fun x5A x5n x5c => vI .i64 (σ 6) fun x6 => vS (σ 7) fun x7A x7n x7c => vS (σ 8) fun x8A x8n x8c => vI .i64 (σ 9) fun x9 => vI .i64 (σ 10) fun x10 => vPa (σ 11) fun x11 => vS (σ 31) fun x31A x31n x31c => vI .i64 (σ 32) fun x32 => vI .i64 (σ 33) fun x33 => vS (σ 47) fun x47A x47n x47c => vI .i64 (σ 48) fun x48 => vI .i64 (σ 49) fun x49 => ref13_Plan.l2 (ref13_Plan.l1 (ref13_Plan.l0 K k0) K k1) (ref13_Plan.l0 K k0) K k x4A x4n x4c x5A x5n x5c x6 x7A x7n x7c x8A x8n x8c x9 x10 x11 x31A x31n x31c x32 x33 x47A x47n x47c x48 x49 w) (Eq.mp (by kernel_rfl) h) ?_ ?_
                                            · intro σ w h
                                              obtain ⟨x4A, x4n, x4c, e4, h⟩ := vS_elim h
                                              obtain ⟨x5A, x5n, x5c, e5, h⟩ := vS_elim h
                                              obtain ⟨x6, e6, h⟩ := vI_elim h
                                              obtain ⟨x7A, x7n, x7c, e7, h⟩ := vS_elim h
                                              obtain ⟨x8A, x8n, x8c, e8, h⟩ := vS_elim h
                                              obtain ⟨x9, e9, h⟩ := vI_elim h
                                              obtain ⟨x10, e10, h⟩ := vI_elim h
                                              obtain ⟨x11, e11, h⟩ := vPa_elim h
                                              obtain ⟨x31A, x31n, x31c, e31, h⟩ := vS_elim h
                                              obtain ⟨x32, e32, h⟩ := vI_elim h
                                              obtain ⟨x33, e33, h⟩ := vI_elim h
                                              obtain ⟨x47A, x47n, x47c, e47, h⟩ := vS_elim h
                                              obtain ⟨x48, e48, h⟩ := vI_elim h
                                              obtain ⟨x49, e49, h⟩ := vI_elim h
                                              exact h
                                            · intro k2 σ w h
                                              obtain ⟨x4A, x4n, x4c, e4, h⟩ := vS_elim h
                                              obtain ⟨x5A, x5n, x5c, e5, h⟩ := vS_elim h
                                              obtain ⟨x6, e6, h⟩ := vI_elim h
                                              obtain ⟨x7A, x7n, x7c, e7, h⟩ := vS_elim h
                                              obtain ⟨x8A, x8n, x8c, e8, h⟩ := vS_elim h
                                              obtain ⟨x9, e9, h⟩ := vI_elim h
                                              obtain ⟨x10, e10, h⟩ := vI_elim h
                                              obtain ⟨x11, e11, h⟩ := vPa_elim h
                                              obtain ⟨x31A, x31n, x31c, e31, h⟩ := vS_elim h
                                              obtain ⟨x32, e32, h⟩ := vI_elim h
                                              obtain ⟨x33, e33, h⟩ := vI_elim h
                                              obtain ⟨x47A, x47n, x47c, e47, h⟩ := vS_elim h
                                              obtain ⟨x48, e48, h⟩ := vI_elim h
                                              obtain ⟨x49, e49, h⟩ := vI_elim h
                                              refine J.sub ?_ (((((((((((((((Sub.base _).upd e4).upd e5).upd e6).upd e7).upd e8).upd e9).upd e10).upd e11).upd e31).upd e32).upd e33).upd e47).upd e48).upd e49)
                                              clear e4 e5 e6 e7 e8 e9 e10 e11 e31 e32 e33 e47 e48 e49
                                              exact sh_sound _ _ _ _ (Eq.mp (by kernel_rfl) h)
                                        · intro σ w h
                                          obtain ⟨x4A, x4n, x4c, e4, h⟩ := vS_elim h
                                          obtain ⟨x5A, x5n, x5c, e5, h⟩ := vS_elim h
                                          obtain ⟨x6, e6, h⟩ := vI_elim h
                                          obtain ⟨x7A, x7n, x7c, e7, h⟩ := vS_elim h
                                          obtain ⟨x8A, x8n, x8c, e8, h⟩ := vS_elim h
                                          obtain ⟨x9, e9, h⟩ := vI_elim h
                                          obtain ⟨x10, e10, h⟩ := vI_elim h
                                          obtain ⟨x31A, x31n, x31c, e31, h⟩ := vS_elim h
                                          obtain ⟨x32, e32, h⟩ := vI_elim h
                                          obtain ⟨x33, e33, h⟩ := vI_elim h
                                          refine J.sub ?_ (((((((((((Sub.base _).upd e4).upd e5).upd e6).upd e7).upd e8).upd e9).upd e10).upd e31).upd e32).upd e33)
                                          clear e4 e5 e6 e7 e8 e9 e10 e31 e32 e33
                                          exact sh_sound _ _ _ _ (Eq.mp (by kernel_rfl) h)
                                · intro σ w h
                                  obtain ⟨x4A, x4n, x4c, e4, h⟩ := vS_elim h
                                  obtain ⟨x5A, x5n, x5c, e5, h⟩ := vS_elim h
                                  obtain ⟨x6, e6, h⟩ := vI_elim h
                                  obtain ⟨x7A, x7n, x7c, e7, h⟩ := vS_elim h
                                  obtain ⟨x8A, x8n, x8c, e8, h⟩ := vS_elim h
                                  obtain ⟨x9, e9, h⟩ := vI_elim h
                                  obtain ⟨x31A, x31n, x31c, e31, h⟩ := vS_elim h
                                  obtain ⟨x32, e32, h⟩ := vI_elim h
                                  obtain ⟨x33, e33, h⟩ := vI_elim h
                                  refine J.sub ?_ ((((((((((Sub.base _).upd e4).upd e5).upd e6).upd e7).upd e8).upd e9).upd e31).upd e32).upd e33)
                                  clear e4 e5 e6 e7 e8 e9 e31 e32 e33
                                  exact sh_sound _ _ _ _ (Eq.mp (by kernel_rfl) h)
                      · intro σ w h
                        obtain ⟨x4A, x4n, x4c, e4, h⟩ := vS_elim h
                        obtain ⟨x5A, x5n, x5c, e5, h⟩ := vS_elim h
                        obtain ⟨x6, e6, h⟩ := vI_elim h
                        obtain ⟨x7A, x7n, x7c, e7, h⟩ := vS_elim h
                        obtain ⟨x8A, x8n, x8c, e8, h⟩ := vS_elim h
                        obtain ⟨x9, e9, h⟩ := vI_elim h
                        refine J.sub ?_ (((((((Sub.base _).upd e4).upd e5).upd e6).upd e7).upd e8).upd e9)
                        clear e4 e5 e6 e7 e8 e9
                        refine J_seq (fun σ w => vS (σ 4) fun x4A x4n x4c => vS (σ 5) fun x5A x5n x5c => vI .i64 (σ 6) fun x6 => vS (σ 7) fun x7A x7n x7c => vS (σ 8) fun x8A x8n x8c => vI .i64 (σ 9) fun x9 => vI .i64 (σ 70) fun x70 => vI .i64 (σ 71) fun x71 => ref13_Plan.p17 (ref13_Plan.l0 K k0) K x4A x4n x4c x5A x5n x5c x6 x7A x7n x7c x8A x8n x8c x9 x70 x71 w) ?_ ?_
                        ·
                          exact sh_sound _ _ _ _ (Eq.mp (by kernel_rfl) h)
                        · intro σ w h
                          obtain ⟨x4A, x4n, x4c, e4, h⟩ := vS_elim h
                          obtain ⟨x5A, x5n, x5c, e5, h⟩ := vS_elim h
                          obtain ⟨x6, e6, h⟩ := vI_elim h
                          obtain ⟨x7A, x7n, x7c, e7, h⟩ := vS_elim h
                          obtain ⟨x8A, x8n, x8c, e8, h⟩ := vS_elim h
                          obtain ⟨x9, e9, h⟩ := vI_elim h
                          obtain ⟨x70, e70, h⟩ := vI_elim h
                          obtain ⟨x71, e71, h⟩ := vI_elim h
                          refine J.sub ?_ (((((((((Sub.base _).upd e4).upd e5).upd e6).upd e7).upd e8).upd e9).upd e70).upd e71)
                          clear e4 e5 e6 e7 e8 e9 e70 e71
                          refine J_block ?_
                          refine J_loop (fun k σ w => vS (σ 4) fun x4A x4n x4c => vS (σ 5) fun x5A x5n x5c => vI .i64 (σ 6) fun x6 => vS (σ 7) fun x7A x7n x7c => vS (σ 8) fun x8A x8n x8c => vI .i64 (σ 9) fun x9 => vI .i64 (σ 70) fun x70 => vI .i64 (σ 71) fun x71 => ref13_Plan.l3 (ref13_Plan.l0 K k0) K k x4A x4n x4c x5A x5n x5c x6 x7A x7n x7c x8A x8n x8c x9 x70 x71 w) (Eq.mp (by kernel_rfl) h) ?_ ?_
                          · intro σ w h
                            obtain ⟨x4A, x4n, x4c, e4, h⟩ := vS_elim h
                            obtain ⟨x5A, x5n, x5c, e5, h⟩ := vS_elim h
                            obtain ⟨x6, e6, h⟩ := vI_elim h
                            obtain ⟨x7A, x7n, x7c, e7, h⟩ := vS_elim h
                            obtain ⟨x8A, x8n, x8c, e8, h⟩ := vS_elim h
                            obtain ⟨x9, e9, h⟩ := vI_elim h
                            obtain ⟨x70, e70, h⟩ := vI_elim h
                            obtain ⟨x71, e71, h⟩ := vI_elim h
                            exact h
                          · intro k3 σ w h
                            obtain ⟨x4A, x4n, x4c, e4, h⟩ := vS_elim h
                            obtain ⟨x5A, x5n, x5c, e5, h⟩ := vS_elim h
                            obtain ⟨x6, e6, h⟩ := vI_elim h
                            obtain ⟨x7A, x7n, x7c, e7, h⟩ := vS_elim h
                            obtain ⟨x8A, x8n, x8c, e8, h⟩ := vS_elim h
                            obtain ⟨x9, e9, h⟩ := vI_elim h
                            obtain ⟨x70, e70, h⟩ := vI_elim h
                            obtain ⟨x71, e71, h⟩ := vI_elim h
                            refine J.sub ?_ (((((((((Sub.base _).upd e4).upd e5).upd e6).upd e7).upd e8).upd e9).upd e70).upd e71)
                            clear e4 e5 e6 e7 e8 e9 e70 e71
                            refine J_seq (fun σ w => vS (σ 4) fun x4A x4n x4c => vS (σ 5) fun x5A x5n x5c => vI .i64 (σ 6) fun x6 => vS (σ 7) fun x7A x7n x7c => vS (σ 8) fun x8A x8n x8c => vI .i64 (σ 9) fun x9 => vI .i64 (σ 70) fun x70 => vI .i64 (σ 71) fun x71 => vB (σ 72) fun x72 => ref13_Plan.p18 (ref13_Plan.l3 (ref13_Plan.l0 K k0) K k3) (ref13_Plan.l0 K k0) K x4A x4n x4c x5A x5n x5c x6 x7A x7n x7c x8A x8n x8c x9 x70 x71 x72 w) ?_ ?_
                            ·
                              exact sh_sound _ _ _ _ (Eq.mp (by kernel_rfl) h)
                            · intro σ w h
                              obtain ⟨x4A, x4n, x4c, e4, h⟩ := vS_elim h
                              obtain ⟨x5A, x5n, x5c, e5, h⟩ := vS_elim h
                              obtain ⟨x6, e6, h⟩ := vI_elim h
                              obtain ⟨x7A, x7n, x7c, e7, h⟩ := vS_elim h
                              obtain ⟨x8A, x8n, x8c, e8, h⟩ := vS_elim h
                              obtain ⟨x9, e9, h⟩ := vI_elim h
                              obtain ⟨x70, e70, h⟩ := vI_elim h
                              obtain ⟨x71, e71, h⟩ := vI_elim h
                              obtain ⟨x72, e72, h⟩ := vB_elim h
                              refine J.sub ?_ ((((((((((Sub.base _).upd e4).upd e5).upd e6).upd e7).upd e8).upd e9).upd e70).upd e71).upd e72)
                              clear e4 e5 e6 e7 e8 e9 e70 e71 e72
                              refine J_seq (fun σ w => vS (σ 4) fun x4A x4n x4c => vS (σ 5) fun x5A x5n x5c => vI .i64 (σ 6) fun x6 => vS (σ 7) fun x7A x7n x7c => vS (σ 8) fun x8A x8n x8c => vI .i64 (σ 9) fun x9 => vI .i64 (σ 70) fun x70 => vI .i64 (σ 71) fun x71 => ref13_Plan.p19 (ref13_Plan.l3 (ref13_Plan.l0 K k0) K k3) (ref13_Plan.l0 K k0) K x4A x4n x4c x5A x5n x5c x6 x7A x7n x7c x8A x8n x8c x9 x70 x71 w) ?_ ?_
                              ·
                                exact sh_sound _ _ _ _ (Eq.mp (by kernel_rfl) h)
                              · intro σ w h
                                obtain ⟨x4A, x4n, x4c, e4, h⟩ := vS_elim h
                                obtain ⟨x5A, x5n, x5c, e5, h⟩ := vS_elim h
                                obtain ⟨x6, e6, h⟩ := vI_elim h
                                obtain ⟨x7A, x7n, x7c, e7, h⟩ := vS_elim h
                                obtain ⟨x8A, x8n, x8c, e8, h⟩ := vS_elim h
                                obtain ⟨x9, e9, h⟩ := vI_elim h
                                obtain ⟨x70, e70, h⟩ := vI_elim h
                                obtain ⟨x71, e71, h⟩ := vI_elim h
                                refine J.sub ?_ (((((((((Sub.base _).upd e4).upd e5).upd e6).upd e7).upd e8).upd e9).upd e70).upd e71)
                                clear e4 e5 e6 e7 e8 e9 e70 e71
                                refine J_seq (fun σ w => vS (σ 4) fun x4A x4n x4c => vS (σ 5) fun x5A x5n x5c => vI .i64 (σ 6) fun x6 => vS (σ 7) fun x7A x7n x7c => vS (σ 8) fun x8A x8n x8c => vI .i64 (σ 9) fun x9 => vI .i64 (σ 70) fun x70 => vI .i64 (σ 71) fun x71 => ref13_Plan.p20 (ref13_Plan.l3 (ref13_Plan.l0 K k0) K k3) (ref13_Plan.l0 K k0) K x4A x4n x4c x5A x5n x5c x6 x7A x7n x7c x8A x8n x8c x9 x70 x71 w) ?_ ?_
                                ·
                                  exact sh_sound _ _ _ _ (Eq.mp (by kernel_rfl) h)
                                · intro σ w h
                                  obtain ⟨x4A, x4n, x4c, e4, h⟩ := vS_elim h
                                  obtain ⟨x5A, x5n, x5c, e5, h⟩ := vS_elim h
                                  obtain ⟨x6, e6, h⟩ := vI_elim h
                                  obtain ⟨x7A, x7n, x7c, e7, h⟩ := vS_elim h
                                  obtain ⟨x8A, x8n, x8c, e8, h⟩ := vS_elim h
                                  obtain ⟨x9, e9, h⟩ := vI_elim h
                                  obtain ⟨x70, e70, h⟩ := vI_elim h
                                  obtain ⟨x71, e71, h⟩ := vI_elim h
                                  refine J.sub ?_ (((((((((Sub.base _).upd e4).upd e5).upd e6).upd e7).upd e8).upd e9).upd e70).upd e71)
                                  clear e4 e5 e6 e7 e8 e9 e70 e71
                                  exact sh_sound _ _ _ _ (Eq.mp (by kernel_rfl) h)
                · intro σ w h
                  obtain ⟨x4A, x4n, x4c, e4, h⟩ := vS_elim h
                  obtain ⟨x5A, x5n, x5c, e5, h⟩ := vS_elim h
                  obtain ⟨x6, e6, h⟩ := vI_elim h
                  refine J.sub ?_ ((((Sub.base _).upd e4).upd e5).upd e6)
                  clear e4 e5 e6
                  exact sh_sound _ _ _ _ (Eq.mp (by kernel_rfl) h)
        · intro σ w h
          obtain ⟨x4A, x4n, x4c, e4, h⟩ := vS_elim h
          obtain ⟨x5A, x5n, x5c, e5, h⟩ := vS_elim h
          refine J.sub ?_ (((Sub.base _).upd e4).upd e5)
          clear e4 e5
          refine J_seq (fun σ w => vS (σ 4) fun x4A x4n x4c => vS (σ 5) fun x5A x5n x5c => vS (σ 18) fun x18A x18n x18c => ref13_Plan.p23 K x4A x4n x4c x5A x5n x5c x18A x18n x18c w) ?_ ?_
          ·
            exact sh_sound _ _ _ _ (Eq.mp (by kernel_rfl) h)
          · intro σ w h
            obtain ⟨x4A, x4n, x4c, e4, h⟩ := vS_elim h
            obtain ⟨x5A, x5n, x5c, e5, h⟩ := vS_elim h
            obtain ⟨x18A, x18n, x18c, e18, h⟩ := vS_elim h
            refine J.sub ?_ ((((Sub.base _).upd e4).upd e5).upd e18)
            clear e4 e5 e18
            refine J_seq (fun σ w => vS (σ 4) fun x4A x4n x4c => vS (σ 5) fun x5A x5n x5c => vS (σ 18) fun x18A x18n x18c => vI .i64 (σ 19) fun x19 => ref13_Plan.p24 K x4A x4n x4c x5A x5n x5c x18A x18n x18c x19 w) ?_ ?_
            ·
              exact sh_sound _ _ _ _ (Eq.mp (by kernel_rfl) h)
            · intro σ w h
              obtain ⟨x4A, x4n, x4c, e4, h⟩ := vS_elim h
              obtain ⟨x5A, x5n, x5c, e5, h⟩ := vS_elim h
              obtain ⟨x18A, x18n, x18c, e18, h⟩ := vS_elim h
              obtain ⟨x19, e19, h⟩ := vI_elim h
              refine J.sub ?_ (((((Sub.base _).upd e4).upd e5).upd e18).upd e19)
              clear e4 e5 e18 e19
              refine J_seq (fun σ w => vS (σ 5) fun x5A x5n x5c => vS (σ 18) fun x18A x18n x18c => ref13_Plan.p33 K x5A x5n x5c x18A x18n x18c w) ?_ ?_
              ·
                refine J_seq (fun σ w => vS (σ 5) fun x5A x5n x5c => vS (σ 18) fun x18A x18n x18c => vI .i64 (σ 19) fun x19 => vS (σ 124) fun x124A x124n x124c => vI .i64 (σ 125) fun x125 => vI .i64 (σ 126) fun x126 => ref13_Plan.p25 K x5A x5n x5c x18A x18n x18c x19 x124A x124n x124c x125 x126 w) ?_ ?_
                ·
                  exact sh_sound _ _ _ _ (Eq.mp (by kernel_rfl) h)
                · intro σ w h
                  obtain ⟨x5A, x5n, x5c, e5, h⟩ := vS_elim h
                  obtain ⟨x18A, x18n, x18c, e18, h⟩ := vS_elim h
                  obtain ⟨x19, e19, h⟩ := vI_elim h
                  obtain ⟨x124A, x124n, x124c, e124, h⟩ := vS_elim h
                  obtain ⟨x125, e125, h⟩ := vI_elim h
                  obtain ⟨x126, e126, h⟩ := vI_elim h
                  refine J.sub ?_ (((((((Sub.base _).upd e5).upd e18).upd e19).upd e124).upd e125).upd e126)
                  clear e5 e18 e19 e124 e125 e126
                  refine J_block ?_
                  refine J_loop (fun k σ w => vS (σ 5) fun x5A x5n x5c => vS (σ 18) fun x18A x18n x18c => vI .i64 (σ 19) fun x19 => vS (σ 124) fun x124A x124n x124c => vI .i64 (σ 125) fun x125 => vI .i64 (σ 126) fun x126 => ref13_Plan.l4 K k x5A x5n x5c x18A x18n x18c x19 x124A x124n x124c x125 x126 w) (Eq.mp (by kernel_rfl) h) ?_ ?_
                  · intro σ w h
                    obtain ⟨x5A, x5n, x5c, e5, h⟩ := vS_elim h
                    obtain ⟨x18A, x18n, x18c, e18, h⟩ := vS_elim h
                    obtain ⟨x19, e19, h⟩ := vI_elim h
                    obtain ⟨x124A, x124n, x124c, e124, h⟩ := vS_elim h
                    obtain ⟨x125, e125, h⟩ := vI_elim h
                    obtain ⟨x126, e126, h⟩ := vI_elim h
                    exact h
                  · intro k4 σ w h
                    obtain ⟨x5A, x5n, x5c, e5, h⟩ := vS_elim h
                    obtain ⟨x18A, x18n, x18c, e18, h⟩ := vS_elim h
                    obtain ⟨x19, e19, h⟩ := vI_elim h
                    obtain ⟨x124A, x124n, x124c, e124, h⟩ := vS_elim h
                    obtain ⟨x125, e125, h⟩ := vI_elim h
                    obtain ⟨x126, e126, h⟩ := vI_elim h
                    refine J.sub ?_ (((((((Sub.base _).upd e5).upd e18).upd e19).upd e124).upd e125).upd e126)
                    clear e5 e18 e19 e124 e125 e126
                    refine J_seq (fun σ w => vS (σ 5) fun x5A x5n x5c => vS (σ 18) fun x18A x18n x18c => vI .i64 (σ 19) fun x19 => vS (σ 124) fun x124A x124n x124c => vI .i64 (σ 125) fun x125 => vI .i64 (σ 126) fun x126 => vB (σ 127) fun x127 => ref13_Plan.p26 (ref13_Plan.l4 K k4) K x5A x5n x5c x18A x18n x18c x19 x124A x124n x124c x125 x126 x127 w) ?_ ?_
                    ·
                      exact sh_sound _ _ _ _ (Eq.mp (by kernel_rfl) h)
                    · intro σ w h
                      obtain ⟨x5A, x5n, x5c, e5, h⟩ := vS_elim h
                      obtain ⟨x18A, x18n, x18c, e18, h⟩ := vS_elim h
                      obtain ⟨x19, e19, h⟩ := vI_elim h
                      obtain ⟨x124A, x124n, x124c, e124, h⟩ := vS_elim h
                      obtain ⟨x125, e125, h⟩ := vI_elim h
                      obtain ⟨x126, e126, h⟩ := vI_elim h
                      obtain ⟨x127, e127, h⟩ := vB_elim h
                      refine J.sub ?_ ((((((((Sub.base _).upd e5).upd e18).upd e19).upd e124).upd e125).upd e126).upd e127)
                      clear e5 e18 e19 e124 e125 e126 e127
                      refine J_seq (fun σ w => vS (σ 5) fun x5A x5n x5c => vS (σ 18) fun x18A x18n x18c => vI .i64 (σ 19) fun x19 => vS (σ 124) fun x124A x124n x124c => vI .i64 (σ 125) fun x125 => vI .i64 (σ 126) fun x126 => ref13_Plan.p27 (ref13_Plan.l4 K k4) K x5A x5n x5c x18A x18n x18c x19 x124A x124n x124c x125 x126 w) ?_ ?_
                      ·
                        exact sh_sound _ _ _ _ (Eq.mp (by kernel_rfl) h)
                      · intro σ w h
                        obtain ⟨x5A, x5n, x5c, e5, h⟩ := vS_elim h
                        obtain ⟨x18A, x18n, x18c, e18, h⟩ := vS_elim h
                        obtain ⟨x19, e19, h⟩ := vI_elim h
                        obtain ⟨x124A, x124n, x124c, e124, h⟩ := vS_elim h
                        obtain ⟨x125, e125, h⟩ := vI_elim h
                        obtain ⟨x126, e126, h⟩ := vI_elim h
                        refine J.sub ?_ (((((((Sub.base _).upd e5).upd e18).upd e19).upd e124).upd e125).upd e126)
                        clear e5 e18 e19 e124 e125 e126
                        refine J_seq (fun σ w => vS (σ 5) fun x5A x5n x5c => vS (σ 18) fun x18A x18n x18c => vI .i64 (σ 19) fun x19 => vS (σ 124) fun x124A x124n x124c => vI .i64 (σ 125) fun x125 => vI .i64 (σ 126) fun x126 => ref13_Plan.p29 (ref13_Plan.l4 K k4) K x5A x5n x5c x18A x18n x18c x19 x124A x124n x124c x125 x126 w) ?_ ?_
                        ·
                          refine J_block ?_
                          refine J_seq (fun σ w => vS (σ 5) fun x5A x5n x5c => vS (σ 18) fun x18A x18n x18c => vI .i64 (σ 19) fun x19 => vPa (σ 21) fun x21 => vS (σ 124) fun x124A x124n x124c => vI .i64 (σ 125) fun x125 => vI .i64 (σ 126) fun x126 => ref13_Plan.p28 (ref13_Plan.l4 K k4) K x5A x5n x5c x18A x18n x18c x19 x21 x124A x124n x124c x125 x126 w) ?_ ?_
                          ·
                            exact sh_sound _ _ _ _ (Eq.mp (by kernel_rfl) h)
                          · intro σ w h
                            obtain ⟨x5A, x5n, x5c, e5, h⟩ := vS_elim h
                            obtain ⟨x18A, x18n, x18c, e18, h⟩ := vS_elim h
                            obtain ⟨x19, e19, h⟩ := vI_elim h
                            obtain ⟨x21, e21, h⟩ := vPa_elim h
                            obtain ⟨x124A, x124n, x124c, e124, h⟩ := vS_elim h
                            obtain ⟨x125, e125, h⟩ := vI_elim h
                            obtain ⟨x126, e126, h⟩ := vI_elim h
                            refine J.sub ?_ ((((((((Sub.base _).upd e5).upd e18).upd e19).upd e21).upd e124).upd e125).upd e126)
                            clear e5 e18 e19 e21 e124 e125 e126
                            refine J_seq (fun σ w => vS (σ 5) fun x5A x5n x5c => vS (σ 18) fun x18A x18n x18c => vI .i64 (σ 19) fun x19 => vPa (σ 21) fun x21 => vS (σ 124) fun x124A x124n x124c => vI .i64 (σ 125) fun x125 => vI .i64 (σ 126) fun x126 => ref13_Plan.p30 (ref13_Plan.l4 K k4) K x5A x5n x5c x18A x18n x18c x19 x21 x124A x124n x124c x125 x126 w) ?_ ?_
                            ·
                              exact sh_sound _ _ _ _ (Eq.mp (by kernel_rfl) h)
                            · intro σ w h
                              obtain ⟨x5A, x5n, x5c, e5, h⟩ := vS_elim h
                              obtain ⟨x18A, x18n, x18c, e18, h⟩ := vS_elim h
                              obtain ⟨x19, e19, h⟩ := vI_elim h
                              obtain ⟨x21, e21, h⟩ := vPa_elim h
                              obtain ⟨x124A, x124n, x124c, e124, h⟩ := vS_elim h
                              obtain ⟨x125, e125, h⟩ := vI_elim h
                              obtain ⟨x126, e126, h⟩ := vI_elim h
                              refine J.sub ?_ ((((((((Sub.base _).upd e5).upd e18).upd e19).upd e21).upd e124).upd e125).upd e126)
                              clear e5 e18 e19 e21 e124 e125 e126
                              refine J_seq (fun σ w => vS (σ 5) fun x5A x5n x5c => vS (σ 18) fun x18A x18n x18c => vI .i64 (σ 19) fun x19 => vPa (σ 21) fun x21 => vI .i64 (σ 22) fun x22 => vS (σ 124) fun x124A x124n x124c => vI .i64 (σ 125) fun x125 => vI .i64 (σ 126) fun x126 => ref13_Plan.p31 (ref13_Plan.l4 K k4) K x5A x5n x5c x18A x18n x18c x19 x21 x22 x124A x124n x124c x125 x126 w) ?_ ?_
                              ·
                                exact sh_sound _ _ _ _ (Eq.mp (by kernel_rfl) h)
                              · intro σ w h
                                obtain ⟨x5A, x5n, x5c, e5, h⟩ := vS_elim h
                                obtain ⟨x18A, x18n, x18c, e18, h⟩ := vS_elim h
                                obtain ⟨x19, e19, h⟩ := vI_elim h
                                obtain ⟨x21, e21, h⟩ := vPa_elim h
                                obtain ⟨x22, e22, h⟩ := vI_elim h
                                obtain ⟨x124A, x124n, x124c, e124, h⟩ := vS_elim h
                                obtain ⟨x125, e125, h⟩ := vI_elim h
                                obtain ⟨x126, e126, h⟩ := vI_elim h
                                refine J.sub ?_ (((((((((Sub.base _).upd e5).upd e18).upd e19).upd e21).upd e22).upd e124).upd e125).upd e126)
                                clear e5 e18 e19 e21 e22 e124 e125 e126
                                refine J_seq (fun σ w => vS (σ 5) fun x5A x5n x5c => vS (σ 18) fun x18A x18n x18c => vI .i64 (σ 19) fun x19 => vPa (σ 21) fun x21 => vI .i64 (σ 22) fun x22 => vS (σ 124) fun x124A x124n x124c => vI .i64 (σ 125) fun x125 => vI .i64 (σ 126) fun x126 => ref13_Plan.p32 (ref13_Plan.l4 K k4) K x5A x5n x5c x18A x18n x18c x19 x21 x22 x124A x124n x124c x125 x126 w) ?_ ?_
                                ·
                                  exact sh_sound _ _ _ _ (Eq.mp (by kernel_rfl) h)
                                · intro σ w h
                                  obtain ⟨x5A, x5n, x5c, e5, h⟩ := vS_elim h
                                  obtain ⟨x18A, x18n, x18c, e18, h⟩ := vS_elim h
                                  obtain ⟨x19, e19, h⟩ := vI_elim h
                                  obtain ⟨x21, e21, h⟩ := vPa_elim h
                                  obtain ⟨x22, e22, h⟩ := vI_elim h
                                  obtain ⟨x124A, x124n, x124c, e124, h⟩ := vS_elim h
                                  obtain ⟨x125, e125, h⟩ := vI_elim h
                                  obtain ⟨x126, e126, h⟩ := vI_elim h
                                  refine J.sub ?_ (((((((((Sub.base _).upd e5).upd e18).upd e19).upd e21).upd e22).upd e124).upd e125).upd e126)
                                  clear e5 e18 e19 e21 e22 e124 e125 e126
                                  exact sh_sound _ _ _ _ (Eq.mp (by kernel_rfl) h)
                        · intro σ w h
                          obtain ⟨x5A, x5n, x5c, e5, h⟩ := vS_elim h
                          obtain ⟨x18A, x18n, x18c, e18, h⟩ := vS_elim h
                          obtain ⟨x19, e19, h⟩ := vI_elim h
                          obtain ⟨x124A, x124n, x124c, e124, h⟩ := vS_elim h
                          obtain ⟨x125, e125, h⟩ := vI_elim h
                          obtain ⟨x126, e126, h⟩ := vI_elim h
                          refine J.sub ?_ (((((((Sub.base _).upd e5).upd e18).upd e19).upd e124).upd e125).upd e126)
                          clear e5 e18 e19 e124 e125 e126
                          exact sh_sound _ _ _ _ (Eq.mp (by kernel_rfl) h)
              · intro σ w h
                obtain ⟨x5A, x5n, x5c, e5, h⟩ := vS_elim h
                obtain ⟨x18A, x18n, x18c, e18, h⟩ := vS_elim h
                refine J.sub ?_ (((Sub.base _).upd e5).upd e18)
                clear e5 e18
                exact sh_sound _ _ _ _ (Eq.mp (by kernel_rfl) h)

/-! ### hayloft/hayloftref13.Same: function 17 -/
abbrev ref13_Same.p3 (K : Value → World → Prop) (w : World) : Prop :=
  K (.bool true) w
abbrev ref13_Same.b0 (L0 : Option Addr → Nat → Nat → Option Addr → Nat → Nat → Int → Int → World → Prop) (K : Value → World → Prop) (x0A : Option Addr) (x0n : Nat) (x0c : Nat) (x1A : Option Addr) (x1n : Nat) (x1c : Nat) (x12 : Int) (x13 : Int) (w : World) : Prop :=
  condP (decide (x13 < x12)) ((0 ≤ x13 ∧ x13 < ((x0n : Nat) : Int)) ∧ ∃ (a1 : Addr), x0A = some a1 ∧ ∃ (n2 : Int), w.cell? (a1.add (x13.toNat * 3)) = some (.int .i64 n2) ∧ ∃ (n3 : Int), w.cell? ((a1.add (x13.toNat * 3)).add 1) = some (.int .i64 n3) ∧ ∃ (n4 : Int), w.cell? ((a1.add (x13.toNat * 3)).add 2) = some (.int .i64 n4) ∧ (0 ≤ x13 ∧ x13 < ((x1n : Nat) : Int)) ∧ ∃ (a5 : Addr), x1A = some a5 ∧ ∃ (n6 : Int), w.cell? (a5.add (x13.toNat * 3)) = some (.int .i64 n6) ∧ ∃ (n7 : Int), w.cell? ((a5.add (x13.toNat * 3)).add 1) = some (.int .i64 n7) ∧ ∃ (n8 : Int), w.cell? ((a5.add (x13.toNat * 3)).add 2) = some (.int .i64 n8) ∧ ∃ (b9 : Bool), aggEq Tryd.prog .neq 25 (.agg #[.int .i64 n2, .int .i64 n3, .int .i64 n4]) (.agg #[.int .i64 n6, .int .i64 n7, .int .i64 n8]) (.bool b9) ∧ condP b9 (K (.bool false) w) (L0 x0A x0n x0c x1A x1n x1c x12 (IntKind.wrap .i64 (x13 + (1 : Int))) w)) (ref13_Same.p3 K w)
def ref13_Same.l0 (K : Value → World → Prop) (k : Nat) : Option Addr → Nat → Nat → Option Addr → Nat → Nat → Int → Int → World → Prop :=
  Nat.rec (motive := fun _ => Option Addr → Nat → Nat → Option Addr → Nat → Nat → Int → Int → World → Prop) (fun _ _ _ _ _ _ _ _ _ => False) (fun _ ih => ref13_Same.b0 ih K) k
theorem ref13_Same.l0_succ (K : Value → World → Prop) (k : Nat) (x0A : Option Addr) (x0n : Nat) (x0c : Nat) (x1A : Option Addr) (x1n : Nat) (x1c : Nat) (x12 : Int) (x13 : Int) (w : World) : ref13_Same.l0 K (k + 1) x0A x0n x0c x1A x1n x1c x12 x13 w = ref13_Same.b0 (ref13_Same.l0 K k) K x0A x0n x0c x1A x1n x1c x12 x13 w := rfl
abbrev ref13_Same.p2 (K : Value → World → Prop) (x0A : Option Addr) (x0n : Nat) (x0c : Nat) (x1A : Option Addr) (x1n : Nat) (x1c : Nat) (x12 : Int) (x13 : Int) (w : World) : Prop :=
  ∃ k, ref13_Same.l0 K k x0A x0n x0c x1A x1n x1c x12 x13 w
abbrev ref13_Same.p1 (K : Value → World → Prop) (x0A : Option Addr) (x0n : Nat) (x0c : Nat) (x1A : Option Addr) (x1n : Nat) (x1c : Nat) (w : World) : Prop :=
  ref13_Same.p2 K x0A x0n x0c x1A x1n x1c ((x0n : Nat) : Int) 0 w
abbrev ref13_Same.p0 (K : Value → World → Prop) (x0A : Option Addr) (x0n : Nat) (x0c : Nat) (x1A : Option Addr) (x1n : Nat) (x1c : Nat) (w : World) : Prop :=
  condP (((x0n : Nat) : Int) != ((x1n : Nat) : Int)) (K (.bool false) w) (ref13_Same.p1 K x0A x0n x0c x1A x1n x1c w)
abbrev ref13_Same.F (q0A : Option Addr) (q0n : Nat) (q0c : Nat) (q1A : Option Addr) (q1n : Nat) (q1c : Nat) (K : Value → World → Prop) (w : World) : Prop :=
  ref13_Same.p0 K q0A q0n q0c q1A q1n q1c w
theorem ref13_Same.ok {q0A : Option Addr} {q0n : Nat} {q0c : Nat} {q1A : Option Addr} {q1n : Nat} {q1c : Nat} {K : Value → World → Prop} {w : World} (h : ref13_Same.F q0A q0n q0c q1A q1n q1c K w) :
    CallsE Tryd.prog 17 #[.slice q0A q0n q0c, .slice q1A q1n q1c] w K := by
  refine calls_of_J (n := 26) (rs := [.tmp 4]) Tryd.func17 rfl rfl rfl rfl ?_
  refine J_seq (fun σ w => vS (σ 0) fun x0A x0n x0c => vS (σ 1) fun x1A x1n x1c => ref13_Same.p0 K x0A x0n x0c x1A x1n x1c w) ?_ ?_
  ·
    exact sh_sound _ _ _ _ (Eq.mp (by kernel_rfl) h)
  · intro σ w h
    obtain ⟨x0A, x0n, x0c, e0, h⟩ := vS_elim h
    obtain ⟨x1A, x1n, x1c, e1, h⟩ := vS_elim h
    refine J.sub ?_ (((Sub.base _).upd e0).upd e1)
    clear e0 e1
    refine J_seq (fun σ w => vS (σ 0) fun x0A x0n x0c => vS (σ 1) fun x1A x1n x1c => ref13_Same.p1 K x0A x0n x0c x1A x1n x1c w) ?_ ?_
    ·
      exact sh_sound _ _ _ _ (Eq.mp (by kernel_rfl) h)
    · intro σ w h
      obtain ⟨x0A, x0n, x0c, e0, h⟩ := vS_elim h
      obtain ⟨x1A, x1n, x1c, e1, h⟩ := vS_elim h
      refine J.sub ?_ (((Sub.base _).upd e0).upd e1)
      clear e0 e1
      refine J_seq (fun σ w => ref13_Same.p3 K w) ?_ ?_
      ·
        refine J_seq (fun σ w => vS (σ 0) fun x0A x0n x0c => vS (σ 1) fun x1A x1n x1c => vI .i64 (σ 12) fun x12 => vI .i64 (σ 13) fun x13 => ref13_Same.p2 K x0A x0n x0c x1A x1n x1c x12 x13 w) ?_ ?_
        ·
          exact sh_sound _ _ _ _ (Eq.mp (by kernel_rfl) h)
        · intro σ w h
          obtain ⟨x0A, x0n, x0c, e0, h⟩ := vS_elim h
          obtain ⟨x1A, x1n, x1c, e1, h⟩ := vS_elim h
          obtain ⟨x12, e12, h⟩ := vI_elim h
          obtain ⟨x13, e13, h⟩ := vI_elim h
          refine J.sub ?_ (((((Sub.base _).upd e0).upd e1).upd e12).upd e13)
          clear e0 e1 e12 e13
          refine J_block ?_
          refine J_loop (fun k σ w => vS (σ 0) fun x0A x0n x0c => vS (σ 1) fun x1A x1n x1c => vI .i64 (σ 12) fun x12 => vI .i64 (σ 13) fun x13 => ref13_Same.l0 K k x0A x0n x0c x1A x1n x1c x12 x13 w) (Eq.mp (by kernel_rfl) h) ?_ ?_
          · intro σ w h
            obtain ⟨x0A, x0n, x0c, e0, h⟩ := vS_elim h
            obtain ⟨x1A, x1n, x1c, e1, h⟩ := vS_elim h
            obtain ⟨x12, e12, h⟩ := vI_elim h
            obtain ⟨x13, e13, h⟩ := vI_elim h
            exact h
          · intro k0 σ w h
            obtain ⟨x0A, x0n, x0c, e0, h⟩ := vS_elim h
            obtain ⟨x1A, x1n, x1c, e1, h⟩ := vS_elim h
            obtain ⟨x12, e12, h⟩ := vI_elim h
            obtain ⟨x13, e13, h⟩ := vI_elim h
            refine J.sub ?_ (((((Sub.base _).upd e0).upd e1).upd e12).upd e13)
            clear e0 e1 e12 e13
            exact sh_sound _ _ _ _ (Eq.mp (by kernel_rfl) h)
      · intro σ w h
        refine J.sub ?_ (Sub.base _)
        exact sh_sound _ _ _ _ (Eq.mp (by kernel_rfl) h)

/-! ### hayloft/hayloftlaw13.slots: function 18 -/
abbrev law13_slots.p10 (L1 : Option Addr → Nat → Nat → Option Addr → Nat → Nat → Int → Option Addr → Nat → Nat → Int → Int → World → Prop) (L0 : Option Addr → Nat → Nat → Option Addr → Nat → Nat → Int → World → Prop) (K : Value → World → Prop) (x0A : Option Addr) (x0n : Nat) (x0c : Nat) (x3A : Option Addr) (x3n : Nat) (x3c : Nat) (x4 : Int) (x17A : Option Addr) (x17n : Nat) (x17c : Nat) (x18 : Int) (x19 : Int) (w : World) : Prop :=
  L1 x0A x0n x0c x3A x3n x3c x4 x17A x17n x17c x18 (IntKind.wrap .i64 (x19 + (1 : Int))) w
abbrev law13_slots.b2 (L2 : Option Addr → Nat → Nat → Option Addr → Nat → Nat → Int → Option Addr → Option Addr → Nat → Nat → Int → Int → Option Addr → Nat → Nat → Int → Int → World → Prop) (L1 : Option Addr → Nat → Nat → Option Addr → Nat → Nat → Int → Option Addr → Nat → Nat → Int → Int → World → Prop) (L0 : Option Addr → Nat → Nat → Option Addr → Nat → Nat → Int → World → Prop) (K : Value → World → Prop) (x0A : Option Addr) (x0n : Nat) (x0c : Nat) (x3A : Option Addr) (x3n : Nat) (x3c : Nat) (x4 : Int) (x7 : Option Addr) (x17A : Option Addr) (x17n : Nat) (x17c : Nat) (x18 : Int) (x19 : Int) (x37A : Option Addr) (x37n : Nat) (x37c : Nat) (x38 : Int) (x39 : Int) (w : World) : Prop :=
  condP (decide (x39 < x38)) ((0 ≤ x39 ∧ x39 < ((x37n : Nat) : Int)) ∧ ∃ (a26 : Addr), x37A = some a26 ∧ ∃ (n27 : Int), w.cell? (a26.add x39.toNat) = some (.int .i64 n27) ∧ CallsE Tryd.prog 35 #[.pointer x7, .int .i64 n27] w (fun v28 w29 => ∃ (n30 : Int) (b31 : Bool), v28 = .tuple #[.int .i64 n30, .bool b31] ∧ CallsE Tryd.prog 36 #[.pointer x7] w29 (fun v32 w33 => ∃ (n34 : Int), v32 = .int .i64 n34 ∧ wlet (w33.alloc (.cells #[.int .i64 n30, .int .i64 n34] 42)) fun w35 => SemJ Tryd.prog (Builtin.append_ #[38, 38] 38 #[.slice x3A x3n x3c, .slice (some ⟨w33.heap.size, 0, none⟩) 1 1]) (fun v36 w37 => ∃ (A38 : Option Addr) (m39 : Nat) (c40 : Nat), v36 = .slice A38 m39 c40 ∧ L2 x0A x0n x0c A38 m39 c40 x4 x7 x17A x17n x17c x18 x19 x37A x37n x37c x38 (IntKind.wrap .i64 (x39 + (1 : Int))) w37) w35))) (law13_slots.p10 L1 L0 K x0A x0n x0c x3A x3n x3c x4 x17A x17n x17c x18 x19 w)
def law13_slots.l2 (L1 : Option Addr → Nat → Nat → Option Addr → Nat → Nat → Int → Option Addr → Nat → Nat → Int → Int → World → Prop) (L0 : Option Addr → Nat → Nat → Option Addr → Nat → Nat → Int → World → Prop) (K : Value → World → Prop) (k : Nat) : Option Addr → Nat → Nat → Option Addr → Nat → Nat → Int → Option Addr → Option Addr → Nat → Nat → Int → Int → Option Addr → Nat → Nat → Int → Int → World → Prop :=
  Nat.rec (motive := fun _ => Option Addr → Nat → Nat → Option Addr → Nat → Nat → Int → Option Addr → Option Addr → Nat → Nat → Int → Int → Option Addr → Nat → Nat → Int → Int → World → Prop) (fun _ _ _ _ _ _ _ _ _ _ _ _ _ _ _ _ _ _ _ => False) (fun _ ih => law13_slots.b2 ih L1 L0 K) k
theorem law13_slots.l2_succ (L1 : Option Addr → Nat → Nat → Option Addr → Nat → Nat → Int → Option Addr → Nat → Nat → Int → Int → World → Prop) (L0 : Option Addr → Nat → Nat → Option Addr → Nat → Nat → Int → World → Prop) (K : Value → World → Prop) (k : Nat) (x0A : Option Addr) (x0n : Nat) (x0c : Nat) (x3A : Option Addr) (x3n : Nat) (x3c : Nat) (x4 : Int) (x7 : Option Addr) (x17A : Option Addr) (x17n : Nat) (x17c : Nat) (x18 : Int) (x19 : Int) (x37A : Option Addr) (x37n : Nat) (x37c : Nat) (x38 : Int) (x39 : Int) (w : World) : law13_slots.l2 L1 L0 K (k + 1) x0A x0n x0c x3A x3n x3c x4 x7 x17A x17n x17c x18 x19 x37A x37n x37c x38 x39 w = law13_slots.b2 (law13_slots.l2 L1 L0 K k) L1 L0 K x0A x0n x0c x3A x3n x3c x4 x7 x17A x17n x17c x18 x19 x37A x37n x37c x38 x39 w := rfl
abbrev law13_slots.p12 (L1 : Option Addr → Nat → Nat → Option Addr → Nat → Nat → Int → Option Addr → Nat → Nat → Int → Int → World → Prop) (L0 : Option Addr → Nat → Nat → Option Addr → Nat → Nat → Int → World → Prop) (K : Value → World → Prop) (x0A : Option Addr) (x0n : Nat) (x0c : Nat) (x3A : Option Addr) (x3n : Nat) (x3c : Nat) (x4 : Int) (x7 : Option Addr) (x17A : Option Addr) (x17n : Nat) (x17c : Nat) (x18 : Int) (x19 : Int) (x37A : Option Addr) (x37n : Nat) (x37c : Nat) (x38 : Int) (x39 : Int) (w : World) : Prop :=
  ∃ k, law13_slots.l2 L1 L0 K k x0A x0n x0c x3A x3n x3c x4 x7 x17A x17n x17c x18 x19 x37A x37n x37c x38 x39 w
abbrev law13_slots.p11 (L1 : Option Addr → Nat → Nat → Option Addr → Nat → Nat → Int → Option Addr → Nat → Nat → Int → Int → World → Prop) (L0 : Option Addr → Nat → Nat → Option Addr → Nat → Nat → Int → World → Prop) (K : Value → World → Prop) (x0A : Option Addr) (x0n : Nat) (x0c : Nat) (x3A : Option Addr) (x3n : Nat) (x3c : Nat) (x4 : Int) (x6 : Addr) (x7 : Option Addr) (x17A : Option Addr) (x17n : Nat) (x17c : Nat) (x18 : Int) (x19 : Int) (w : World) : Prop :=
  ∃ (A23 : Option Addr) (m24 : Nat) (c25 : Nat), w.cell? (x6.add 3) = some (.slice A23 m24 c25) ∧ law13_slots.p12 L1 L0 K x0A x0n x0c x3A x3n x3c x4 x7 x17A x17n x17c x18 x19 A23 m24 c25 ((m24 : Nat) : Int) 0 w
abbrev law13_slots.p9 (L1 : Option Addr → Nat → Nat → Option Addr → Nat → Nat → Int → Option Addr → Nat → Nat → Int → Int → World → Prop) (L0 : Option Addr → Nat → Nat → Option Addr → Nat → Nat → Int → World → Prop) (K : Value → World → Prop) (x0A : Option Addr) (x0n : Nat) (x0c : Nat) (x3A : Option Addr) (x3n : Nat) (x3c : Nat) (x4 : Int) (x6 : Addr) (x7 : Option Addr) (x17A : Option Addr) (x17n : Nat) (x17c : Nat) (x18 : Int) (x19 : Int) (x35 : Bool) (w : World) : Prop :=
  condP x35 (law13_slots.p10 L1 L0 K x0A x0n x0c x3A x3n x3c x4 x17A x17n x17c x18 x19 w) (law13_slots.p11 L1 L0 K x0A x0n x0c x3A x3n x3c x4 x6 x7 x17A x17n x17c x18 x19 w)
abbrev law13_slots.p8 (L1 : Option Addr → Nat → Nat → Option Addr → Nat → Nat → Int → Option Addr → Nat → Nat → Int → Int → World → Prop) (L0 : Option Addr → Nat → Nat → Option Addr → Nat → Nat → Int → World → Prop) (K : Value → World → Prop) (x0A : Option Addr) (x0n : Nat) (x0c : Nat) (x3A : Option Addr) (x3n : Nat) (x3c : Nat) (x4 : Int) (x6 : Addr) (x7 : Option Addr) (x8 : Int) (x17A : Option Addr) (x17n : Nat) (x17c : Nat) (x18 : Int) (x19 : Int) (w : World) : Prop :=
  condP (x8 != (0 : Int)) (law13_slots.p9 L1 L0 K x0A x0n x0c x3A x3n x3c x4 x6 x7 x17A x17n x17c x18 x19 true w) (∃ (n41 : Int), w.cell? (x6.add 1) = some (.int .i64 n41) ∧ law13_slots.p9 L1 L0 K x0A x0n x0c x3A x3n x3c x4 x6 x7 x17A x17n x17c x18 x19 (n41 != x4) w)
abbrev law13_slots.p7 (L1 : Option Addr → Nat → Nat → Option Addr → Nat → Nat → Int → Option Addr → Nat → Nat → Int → Int → World → Prop) (L0 : Option Addr → Nat → Nat → Option Addr → Nat → Nat → Int → World → Prop) (K : Value → World → Prop) (x0A : Option Addr) (x0n : Nat) (x0c : Nat) (x3A : Option Addr) (x3n : Nat) (x3c : Nat) (x4 : Int) (x6 : Addr) (x17A : Option Addr) (x17n : Nat) (x17c : Nat) (x18 : Int) (x19 : Int) (w : World) : Prop :=
  ∃ (n13 : Int), w.cell? x6 = some (.int .i64 n13) ∧ ∃ (n14 : Int), w.cell? (x6.add 1) = some (.int .i64 n14) ∧ ∃ (n15 : Int), w.cell? (x6.add 2) = some (.int .i64 n15) ∧ ∃ (A16 : Option Addr) (m17 : Nat) (c18 : Nat), w.cell? (x6.add 3) = some (.slice A16 m17 c18) ∧ CallsE Tryd.prog 20 #[.agg #[.int .i64 n13, .int .i64 n14, .int .i64 n15, .slice A16 m17 c18]] w (fun v19 w20 => ∃ (p21 : Option Addr) (n22 : Int), v19 = .tuple #[.pointer p21, .int .i64 n22] ∧ law13_slots.p8 L1 L0 K x0A x0n x0c x3A x3n x3c x4 x6 p21 n22 x17A x17n x17c x18 x19 w20)
abbrev law13_slots.p6 (L1 : Option Addr → Nat → Nat → Option Addr → Nat → Nat → Int → Option Addr → Nat → Nat → Int → Int → World → Prop) (L0 : Option Addr → Nat → Nat → Option Addr → Nat → Nat → Int → World → Prop) (K : Value → World → Prop) (x0A : Option Addr) (x0n : Nat) (x0c : Nat) (x3A : Option Addr) (x3n : Nat) (x3c : Nat) (x4 : Int) (x17A : Option Addr) (x17n : Nat) (x17c : Nat) (x18 : Int) (x19 : Int) (w : World) : Prop :=
  (0 ≤ x19 ∧ x19 < ((x17n : Nat) : Int)) ∧ ∃ (a1 : Addr), x17A = some a1 ∧ ∃ (n2 : Int), w.cell? (a1.add (x19.toNat * 4)) = some (.int .i64 n2) ∧ ∃ (n3 : Int), w.cell? ((a1.add (x19.toNat * 4)).add 1) = some (.int .i64 n3) ∧ ∃ (n4 : Int), w.cell? ((a1.add (x19.toNat * 4)).add 2) = some (.int .i64 n4) ∧ ∃ (A5 : Option Addr) (m6 : Nat) (c7 : Nat), w.cell? ((a1.add (x19.toNat * 4)).add 3) = some (.slice A5 m6 c7) ∧ wlet (w.alloc (.cells #[.int .i64 0, .int .i64 0, .int .i64 0, .slice none 0 0] 46)) fun w8 => canStore w8 (⟨w.heap.size, 0, none⟩) ∧ wlet (w8.setCell (⟨w.heap.size, 0, none⟩) (.int .i64 n2)) fun w9 => canStore w9 (⟨w.heap.size, 1, none⟩) ∧ wlet (w9.setCell (⟨w.heap.size, 1, none⟩) (.int .i64 n3)) fun w10 => canStore w10 (⟨w.heap.size, 2, none⟩) ∧ wlet (w10.setCell (⟨w.heap.size, 2, none⟩) (.int .i64 n4)) fun w11 => canStore w11 (⟨w.heap.size, 3, none⟩) ∧ wlet (w11.setCell (⟨w.heap.size, 3, none⟩) (.slice A5 m6 c7)) fun w12 => law13_slots.p7 L1 L0 K x0A x0n x0c x3A x3n x3c x4 (⟨w.heap.size, 0, none⟩) x17A x17n x17c x18 x19 w12
abbrev law13_slots.p13 (L0 : Option Addr → Nat → Nat → Option Addr → Nat → Nat → Int → World → Prop) (K : Value → World → Prop) (x0A : Option Addr) (x0n : Nat) (x0c : Nat) (x3A : Option Addr) (x3n : Nat) (x3c : Nat) (x4 : Int) (w : World) : Prop :=
  L0 x0A x0n x0c x3A x3n x3c (IntKind.wrap .i64 (x4 + (1 : Int))) w
abbrev law13_slots.p5 (L1 : Option Addr → Nat → Nat → Option Addr → Nat → Nat → Int → Option Addr → Nat → Nat → Int → Int → World → Prop) (L0 : Option Addr → Nat → Nat → Option Addr → Nat → Nat → Int → World → Prop) (K : Value → World → Prop) (x0A : Option Addr) (x0n : Nat) (x0c : Nat) (x3A : Option Addr) (x3n : Nat) (x3c : Nat) (x4 : Int) (x17A : Option Addr) (x17n : Nat) (x17c : Nat) (x18 : Int) (x19 : Int) (x20 : Bool) (w : World) : Prop :=
  condP x20 (law13_slots.p6 L1 L0 K x0A x0n x0c x3A x3n x3c x4 x17A x17n x17c x18 x19 w) (law13_slots.p13 L0 K x0A x0n x0c x3A x3n x3c x4 w)
abbrev law13_slots.b1 (L1 : Option Addr → Nat → Nat → Option Addr → Nat → Nat → Int → Option Addr → Nat → Nat → Int → Int → World → Prop) (L0 : Option Addr → Nat → Nat → Option Addr → Nat → Nat → Int → World → Prop) (K : Value → World → Prop) (x0A : Option Addr) (x0n : Nat) (x0c : Nat) (x3A : Option Addr) (x3n : Nat) (x3c : Nat) (x4 : Int) (x17A : Option Addr) (x17n : Nat) (x17c : Nat) (x18 : Int) (x19 : Int) (w : World) : Prop :=
  law13_slots.p5 L1 L0 K x0A x0n x0c x3A x3n x3c x4 x17A x17n x17c x18 x19 (decide (x19 < x18)) w
def law13_slots.l1 (L0 : Option Addr → Nat → Nat → Option Addr → Nat → Nat → Int → World → Prop) (K : Value → World → Prop) (k : Nat) : Option Addr → Nat → Nat → Option Addr → Nat → Nat → Int → Option Addr → Nat → Nat → Int → Int → World → Prop :=
  Nat.rec (motive := fun _ => Option Addr → Nat → Nat → Option Addr → Nat → Nat → Int → Option Addr → Nat → Nat → Int → Int → World → Prop) (fun _ _ _ _ _ _ _ _ _ _ _ _ _ => False) (fun _ ih => law13_slots.b1 ih L0 K) k
theorem law13_slots.l1_succ (L0 : Option Addr → Nat → Nat → Option Addr → Nat → Nat → Int → World → Prop) (K : Value → World → Prop) (k : Nat) (x0A : Option Addr) (x0n : Nat) (x0c : Nat) (x3A : Option Addr) (x3n : Nat) (x3c : Nat) (x4 : Int) (x17A : Option Addr) (x17n : Nat) (x17c : Nat) (x18 : Int) (x19 : Int) (w : World) : law13_slots.l1 L0 K (k + 1) x0A x0n x0c x3A x3n x3c x4 x17A x17n x17c x18 x19 w = law13_slots.b1 (law13_slots.l1 L0 K k) L0 K x0A x0n x0c x3A x3n x3c x4 x17A x17n x17c x18 x19 w := rfl
abbrev law13_slots.p4 (L0 : Option Addr → Nat → Nat → Option Addr → Nat → Nat → Int → World → Prop) (K : Value → World → Prop) (x0A : Option Addr) (x0n : Nat) (x0c : Nat) (x3A : Option Addr) (x3n : Nat) (x3c : Nat) (x4 : Int) (x17A : Option Addr) (x17n : Nat) (x17c : Nat) (x18 : Int) (x19 : Int) (w : World) : Prop :=
  ∃ k, law13_slots.l1 L0 K k x0A x0n x0c x3A x3n x3c x4 x17A x17n x17c x18 x19 w
abbrev law13_slots.p3 (L0 : Option Addr → Nat → Nat → Option Addr → Nat → Nat → Int → World → Prop) (K : Value → World → Prop) (x0A : Option Addr) (x0n : Nat) (x0c : Nat) (x3A : Option Addr) (x3n : Nat) (x3c : Nat) (x4 : Int) (w : World) : Prop :=
  law13_slots.p4 L0 K x0A x0n x0c x3A x3n x3c x4 x0A x0n x0c ((x0n : Nat) : Int) 0 w
abbrev law13_slots.p14 (K : Value → World → Prop) (x3A : Option Addr) (x3n : Nat) (x3c : Nat) (w : World) : Prop :=
  K (.slice x3A x3n x3c) w
abbrev law13_slots.b0 (L0 : Option Addr → Nat → Nat → Option Addr → Nat → Nat → Int → World → Prop) (K : Value → World → Prop) (x0A : Option Addr) (x0n : Nat) (x0c : Nat) (x3A : Option Addr) (x3n : Nat) (x3c : Nat) (x4 : Int) (w : World) : Prop :=
  condP (decide (x4 ≤ (7 : Int))) (law13_slots.p3 L0 K x0A x0n x0c x3A x3n x3c x4 w) (law13_slots.p14 K x3A x3n x3c w)
def law13_slots.l0 (K : Value → World → Prop) (k : Nat) : Option Addr → Nat → Nat → Option Addr → Nat → Nat → Int → World → Prop :=
  Nat.rec (motive := fun _ => Option Addr → Nat → Nat → Option Addr → Nat → Nat → Int → World → Prop) (fun _ _ _ _ _ _ _ _ => False) (fun _ ih => law13_slots.b0 ih K) k
theorem law13_slots.l0_succ (K : Value → World → Prop) (k : Nat) (x0A : Option Addr) (x0n : Nat) (x0c : Nat) (x3A : Option Addr) (x3n : Nat) (x3c : Nat) (x4 : Int) (w : World) : law13_slots.l0 K (k + 1) x0A x0n x0c x3A x3n x3c x4 w = law13_slots.b0 (law13_slots.l0 K k) K x0A x0n x0c x3A x3n x3c x4 w := rfl
abbrev law13_slots.p2 (K : Value → World → Prop) (x0A : Option Addr) (x0n : Nat) (x0c : Nat) (x3A : Option Addr) (x3n : Nat) (x3c : Nat) (x4 : Int) (w : World) : Prop :=
  ∃ k, law13_slots.l0 K k x0A x0n x0c x3A x3n x3c x4 w
abbrev law13_slots.p1 (K : Value → World → Prop) (x0A : Option Addr) (x0n : Nat) (x0c : Nat) (x3A : Option Addr) (x3n : Nat) (x3c : Nat) (w : World) : Prop :=
  law13_slots.p2 K x0A x0n x0c x3A x3n x3c 0 w
abbrev law13_slots.p0 (K : Value → World → Prop) (x0A : Option Addr) (x0n : Nat) (x0c : Nat) (w : World) : Prop :=
  law13_slots.p1 K x0A x0n x0c none 0 0 w
abbrev law13_slots.F (q0A : Option Addr) (q0n : Nat) (q0c : Nat) (K : Value → World → Prop) (w : World) : Prop :=
  law13_slots.p0 K q0A q0n q0c w
theorem law13_slots.ok {q0A : Option Addr} {q0n : Nat} {q0c : Nat} {K : Value → World → Prop} {w : World} (h : law13_slots.F q0A q0n q0c K w) :
    CallsE Tryd.prog 18 #[.slice q0A q0n q0c] w K := by
  refine calls_of_J (n := 59) (rs := [.tmp 2]) Tryd.func18 rfl rfl rfl rfl ?_
  refine J_seq (fun σ w => vS (σ 0) fun x0A x0n x0c => law13_slots.p0 K x0A x0n x0c w) ?_ ?_
  ·
    exact sh_sound _ _ _ _ (Eq.mp (by kernel_rfl) h)
  · intro σ w h
    obtain ⟨x0A, x0n, x0c, e0, h⟩ := vS_elim h
    refine J.sub ?_ ((Sub.base _).upd e0)
    clear e0
    refine J_seq (fun σ w => vS (σ 0) fun x0A x0n x0c => vS (σ 3) fun x3A x3n x3c => law13_slots.p1 K x0A x0n x0c x3A x3n x3c w) ?_ ?_
    ·
      exact sh_sound _ _ _ _ (Eq.mp (by kernel_rfl) h)
    · intro σ w h
      obtain ⟨x0A, x0n, x0c, e0, h⟩ := vS_elim h
      obtain ⟨x3A, x3n, x3c, e3, h⟩ := vS_elim h
      refine J.sub ?_ (((Sub.base _).upd e0).upd e3)
      clear e0 e3
      refine J_seq (fun σ w => vS (σ 3) fun x3A x3n x3c => law13_slots.p14 K x3A x3n x3c w) ?_ ?_
      ·
        refine J_seq (fun σ w => vS (σ 0) fun x0A x0n x0c => vS (σ 3) fun x3A x3n x3c => vI .i64 (σ 4) fun x4 => law13_slots.p2 K x0A x0n x0c x3A x3n x3c x4 w) ?_ ?_
        ·
          exact sh_sound _ _ _ _ (Eq.mp (by kernel_rfl) h)
        · intro σ w h
          obtain ⟨x0A, x0n, x0c, e0, h⟩ := vS_elim h
          obtain ⟨x3A, x3n, x3c, e3, h⟩ := vS_elim h
          obtain ⟨x4, e4, h⟩ := vI_elim h
          refine J.sub ?_ ((((Sub.base _).upd e0).upd e3).upd e4)
          clear e0 e3 e4
          refine J_block ?_
          refine J_loop (fun k σ w => vS (σ 0) fun x0A x0n x0c => vS (σ 3) fun x3A x3n x3c => vI .i64 (σ 4) fun x4 => law13_slots.l0 K k x0A x0n x0c x3A x3n x3c x4 w) (Eq.mp (by kernel_rfl) h) ?_ ?_
          · intro σ w h
            obtain ⟨x0A, x0n, x0c, e0, h⟩ := vS_elim h
            obtain ⟨x3A, x3n, x3c, e3, h⟩ := vS_elim h
            obtain ⟨x4, e4, h⟩ := vI_elim h
            exact h
          · intro k0 σ w h
            obtain ⟨x0A, x0n, x0c, e0, h⟩ := vS_elim h
            obtain ⟨x3A, x3n, x3c, e3, h⟩ := vS_elim h
            obtain ⟨x4, e4, h⟩ := vI_elim h
            refine J.sub ?_ ((((Sub.base _).upd e0).upd e3).upd e4)
            clear e0 e3 e4
            refine J_seq (fun σ w => vS (σ 0) fun x0A x0n x0c => vS (σ 3) fun x3A x3n x3c => vI .i64 (σ 4) fun x4 => law13_slots.p3 (law13_slots.l0 K k0) K x0A x0n x0c x3A x3n x3c x4 w) ?_ ?_
            ·
              exact sh_sound _ _ _ _ (Eq.mp (by kernel_rfl) h)
            · intro σ w h
              obtain ⟨x0A, x0n, x0c, e0, h⟩ := vS_elim h
              obtain ⟨x3A, x3n, x3c, e3, h⟩ := vS_elim h
              obtain ⟨x4, e4, h⟩ := vI_elim h
              refine J.sub ?_ ((((Sub.base _).upd e0).upd e3).upd e4)
              clear e0 e3 e4
              refine J_seq (fun σ w => vS (σ 0) fun x0A x0n x0c => vS (σ 3) fun x3A x3n x3c => vI .i64 (σ 4) fun x4 => law13_slots.p13 (law13_slots.l0 K k0) K x0A x0n x0c x3A x3n x3c x4 w) ?_ ?_
              ·
                refine J_block ?_
                refine J_seq (fun σ w => vS (σ 0) fun x0A x0n x0c => vS (σ 3) fun x3A x3n x3c => vI .i64 (σ 4) fun x4 => vS (σ 17) fun x17A x17n x17c => vI .i64 (σ 18) fun x18 => vI .i64 (σ 19) fun x19 => law13_slots.p4 (law13_slots.l0 K k0) K x0A x0n x0c x3A x3n x3c x4 x17A x17n x17c x18 x19 w) ?_ ?_
                ·
                  exact sh_sound _ _ _ _ (Eq.mp (by kernel_rfl) h)
                · intro σ w h
                  obtain ⟨x0A, x0n, x0c, e0, h⟩ := vS_elim h
                  obtain ⟨x3A, x3n, x3c, e3, h⟩ := vS_elim h
                  obtain ⟨x4, e4, h⟩ := vI_elim h
                  obtain ⟨x17A, x17n, x17c, e17, h⟩ := vS_elim h
                  obtain ⟨x18, e18, h⟩ := vI_elim h
                  obtain ⟨x19, e19, h⟩ := vI_elim h
                  refine J.sub ?_ (((((((Sub.base _).upd e0).upd e3).upd e4).upd e17).upd e18).upd e19)
                  clear e0 e3 e4 e17 e18 e19
                  refine J_block ?_
                  refine J_loop (fun k σ w => vS (σ 0) fun x0A x0n x0c => vS (σ 3) fun x3A x3n x3c => vI .i64 (σ 4) fun x4 => vS (σ 17) fun x17A x17n x17c => vI .i64 (σ 18) fun x18 => vI .i64 (σ 19) fun x19 => law13_slots.l1 (law13_slots.l0 K k0) K k x0A x0n x0c x3A x3n x3c x4 x17A x17n x17c x18 x19 w) (Eq.mp (by kernel_rfl) h) ?_ ?_
                  · intro σ w h
                    obtain ⟨x0A, x0n, x0c, e0, h⟩ := vS_elim h
                    obtain ⟨x3A, x3n, x3c, e3, h⟩ := vS_elim h
                    obtain ⟨x4, e4, h⟩ := vI_elim h
                    obtain ⟨x17A, x17n, x17c, e17, h⟩ := vS_elim h
                    obtain ⟨x18, e18, h⟩ := vI_elim h
                    obtain ⟨x19, e19, h⟩ := vI_elim h
                    exact h
                  · intro k1 σ w h
                    obtain ⟨x0A, x0n, x0c, e0, h⟩ := vS_elim h
                    obtain ⟨x3A, x3n, x3c, e3, h⟩ := vS_elim h
                    obtain ⟨x4, e4, h⟩ := vI_elim h
                    obtain ⟨x17A, x17n, x17c, e17, h⟩ := vS_elim h
                    obtain ⟨x18, e18, h⟩ := vI_elim h
                    obtain ⟨x19, e19, h⟩ := vI_elim h
                    refine J.sub ?_ (((((((Sub.base _).upd e0).upd e3).upd e4).upd e17).upd e18).upd e19)
                    clear e0 e3 e4 e17 e18 e19
                    refine J_seq (fun σ w => vS (σ 0) fun x0A x0n x0c => vS (σ 3) fun x3A x3n x3c => vI .i64 (σ 4) fun x4 => vS (σ 17) fun x17A x17n x17c => vI .i64 (σ 18) fun x18 => vI .i64 (σ 19) fun x19 => vB (σ 20) fun x20 => law13_slots.p5 (law13_slots.l1 (law13_slots.l0 K k0) K k1) (law13_slots.l0 K k0) K x0A x0n x0c x3A x3n x3c x4 x17A x17n x17c x18 x19 x20 w) ?_ ?_
                    ·
                      exact sh_sound _ _ _ _ (Eq.mp (by kernel_rfl) h)
                    · intro σ w h
                      obtain ⟨x0A, x0n, x0c, e0, h⟩ := vS_elim h
                      obtain ⟨x3A, x3n, x3c, e3, h⟩ := vS_elim h
                      obtain ⟨x4, e4, h⟩ := vI_elim h
                      obtain ⟨x17A, x17n, x17c, e17, h⟩ := vS_elim h
                      obtain ⟨x18, e18, h⟩ := vI_elim h
                      obtain ⟨x19, e19, h⟩ := vI_elim h
                      obtain ⟨x20, e20, h⟩ := vB_elim h
                      refine J.sub ?_ ((((((((Sub.base _).upd e0).upd e3).upd e4).upd e17).upd e18).upd e19).upd e20)
                      clear e0 e3 e4 e17 e18 e19 e20
                      refine J_seq (fun σ w => vS (σ 0) fun x0A x0n x0c => vS (σ 3) fun x3A x3n x3c => vI .i64 (σ 4) fun x4 => vS (σ 17) fun x17A x17n x17c => vI .i64 (σ 18) fun x18 => vI .i64 (σ 19) fun x19 => law13_slots.p6 (law13_slots.l1 (law13_slots.l0 K k0) K k1) (law13_slots.l0 K k0) K x0A x0n x0c x3A x3n x3c x4 x17A x17n x17c x18 x19 w) ?_ ?_
                      ·
                        exact sh_sound _ _ _ _ (Eq.mp (by kernel_rfl) h)
                      · intro σ w h
                        obtain ⟨x0A, x0n, x0c, e0, h⟩ := vS_elim h
                        obtain ⟨x3A, x3n, x3c, e3, h⟩ := vS_elim h
                        obtain ⟨x4, e4, h⟩ := vI_elim h
                        obtain ⟨x17A, x17n, x17c, e17, h⟩ := vS_elim h
                        obtain ⟨x18, e18, h⟩ := vI_elim h
                        obtain ⟨x19, e19, h⟩ := vI_elim h
                        refine J.sub ?_ (((((((Sub.base _).upd e0).upd e3).upd e4).upd e17).upd e18).upd e19)
                        clear e0 e3 e4 e17 e18 e19
                        refine J_seq (fun σ w => vS (σ 0) fun x0A x0n x0c => vS (σ 3) fun x3A x3n x3c => vI .i64 (σ 4) fun x4 => vS (σ 17) fun x17A x17n x17c => vI .i64 (σ 18) fun x18 => vI .i64 (σ 19) fun x19 => law13_slots.p10 (law13_slots.l1 (law13_slots.l0 K k0) K k1) (law13_slots.l0 K k0) K x0A x0n x0c x3A x3n x3c x4 x17A x17n x17c x18 x19 w) ?_ ?_
                        ·
                          refine J_block ?_
                          refine J_seq (fun σ w => vS (σ 0) fun x0A x0n x0c => vS (σ 3) fun x3A x3n x3c => vI .i64 (σ 4) fun x4 => vPa (σ 6) fun x6 => vS (σ 17) fun x17A x17n x17c => vI .i64 (σ 18) fun x18 => vI .i64 (σ 19) fun x19 => law13_slots.p7 (law13_slots.l1 (law13_slots.l0 K k0) K k1) (law13_slots.l0 K k0) K x0A x0n x0c x3A x3n x3c x4 x6 x17A x17n x17c x18 x19 w) ?_ ?_
                          ·
                            exact sh_sound _ _ _ _ (Eq.mp (by kernel_rfl) h)
                          · intro σ w h
                            obtain ⟨x0A, x0n, x0c, e0, h⟩ := vS_elim h
                            obtain ⟨x3A, x3n, x3c, e3, h⟩ := vS_elim h
                            obtain ⟨x4, e4, h⟩ := vI_elim h
                            obtain ⟨x6, e6, h⟩ := vPa_elim h
                            obtain ⟨x17A, x17n, x17c, e17, h⟩ := vS_elim h
                            obtain ⟨x18, e18, h⟩ := vI_elim h
                            obtain ⟨x19, e19, h⟩ := vI_elim h
                            refine J.sub ?_ ((((((((Sub.base _).upd e0).upd e3).upd e4).upd e6).upd e17).upd e18).upd e19)
                            clear e0 e3 e4 e6 e17 e18 e19
                            refine J_seq (fun σ w => vS (σ 0) fun x0A x0n x0c => vS (σ 3) fun x3A x3n x3c => vI .i64 (σ 4) fun x4 => vPa (σ 6) fun x6 => vP (σ 7) fun x7 => vI .i64 (σ 8) fun x8 => vS (σ 17) fun x17A x17n x17c => vI .i64 (σ 18) fun x18 => vI .i64 (σ 19) fun x19 => law13_slots.p8 (law13_slots.l1 (law13_slots.l0 K k0) K k1) (law13_slots.l0 K k0) K x0A x0n x0c x3A x3n x3c x4 x6 x7 x8 x17A x17n x17c x18 x19 w) ?_ ?_
                            ·
                              exact sh_sound _ _ _ _ (Eq.mp (by kernel_rfl) h)
                            · intro σ w h
                              obtain ⟨x0A, x0n, x0c, e0, h⟩ := vS_elim h
                              obtain ⟨x3A, x3n, x3c, e3, h⟩ := vS_elim h
                              obtain ⟨x4, e4, h⟩ := vI_elim h
                              obtain ⟨x6, e6, h⟩ := vPa_elim h
                              obtain ⟨x7, e7, h⟩ := vP_elim h
                              obtain ⟨x8, e8, h⟩ := vI_elim h
                              obtain ⟨x17A, x17n, x17c, e17, h⟩ := vS_elim h
                              obtain ⟨x18, e18, h⟩ := vI_elim h
                              obtain ⟨x19, e19, h⟩ := vI_elim h
                              refine J.sub ?_ ((((((((((Sub.base _).upd e0).upd e3).upd e4).upd e6).upd e7).upd e8).upd e17).upd e18).upd e19)
                              clear e0 e3 e4 e6 e7 e8 e17 e18 e19
                              refine J_seq (fun σ w => vS (σ 0) fun x0A x0n x0c => vS (σ 3) fun x3A x3n x3c => vI .i64 (σ 4) fun x4 => vPa (σ 6) fun x6 => vP (σ 7) fun x7 => vS (σ 17) fun x17A x17n x17c => vI .i64 (σ 18) fun x18 => vI .i64 (σ 19) fun x19 => law13_slots.p11 (law13_slots.l1 (law13_slots.l0 K k0) K k1) (law13_slots.l0 K k0) K x0A x0n x0c x3A x3n x3c x4 x6 x7 x17A x17n x17c x18 x19 w) ?_ ?_
                              ·
                                refine J_seq (fun σ w => vS (σ 0) fun x0A x0n x0c => vS (σ 3) fun x3A x3n x3c => vI .i64 (σ 4) fun x4 => vPa (σ 6) fun x6 => vP (σ 7) fun x7 => vS (σ 17) fun x17A x17n x17c => vI .i64 (σ 18) fun x18 => vI .i64 (σ 19) fun x19 => vB (σ 35) fun x35 => law13_slots.p9 (law13_slots.l1 (law13_slots.l0 K k0) K k1) (law13_slots.l0 K k0) K x0A x0n x0c x3A x3n x3c x4 x6 x7 x17A x17n x17c x18 x19 x35 w) ?_ ?_
                                ·
                                  exact sh_sound _ _ _ _ (Eq.mp (by kernel_rfl) h)
                                · intro σ w h
                                  obtain ⟨x0A, x0n, x0c, e0, h⟩ := vS_elim h
                                  obtain ⟨x3A, x3n, x3c, e3, h⟩ := vS_elim h
                                  obtain ⟨x4, e4, h⟩ := vI_elim h
                                  obtain ⟨x6, e6, h⟩ := vPa_elim h
                                  obtain ⟨x7, e7, h⟩ := vP_elim h
                                  obtain ⟨x17A, x17n, x17c, e17, h⟩ := vS_elim h
                                  obtain ⟨x18, e18, h⟩ := vI_elim h
                                  obtain ⟨x19, e19, h⟩ := vI_elim h
                                  obtain ⟨x35, e35, h⟩ := vB_elim h
                                  refine J.sub ?_ ((((((((((Sub.base _).upd e0).upd e3).upd e4).upd e6).upd e7).upd e17).upd e18).upd e19).upd e35)
                                  clear e0 e3 e4 e6 e7 e17 e18 e19 e35
                                  exact sh_sound _ _ _ _ (Eq.mp (by kernel_rfl) h)
                              · intro σ w h
                                obtain ⟨x0A, x0n, x0c, e0, h⟩ := vS_elim h
                                obtain ⟨x3A, x3n, x3c, e3, h⟩ := vS_elim h
                                obtain ⟨x4, e4, h⟩ := vI_elim h
                                obtain ⟨x6, e6, h⟩ := vPa_elim h
                                obtain ⟨x7, e7, h⟩ := vP_elim h
                                obtain ⟨x17A, x17n, x17c, e17, h⟩ := vS_elim h
                                obtain ⟨x18, e18, h⟩ := vI_elim h
                                obtain ⟨x19, e19, h⟩ := vI_elim h
                                refine J.sub ?_ (((((((((Sub.base _).upd e0).upd e3).upd e4).upd e6).upd e7).upd e17).upd e18).upd e19)
                                clear e0 e3 e4 e6 e7 e17 e18 e19
                                refine J_seq (fun σ w => vS (σ 0) fun x0A x0n x0c => vS (σ 3) fun x3A x3n x3c => vI .i64 (σ 4) fun x4 => vP (σ 7) fun x7 => vS (σ 17) fun x17A x17n x17c => vI .i64 (σ 18) fun x18 => vI .i64 (σ 19) fun x19 => vS (σ 37) fun x37A x37n x37c => vI .i64 (σ 38) fun x38 => vI .i64 (σ 39) fun x39 => law13_slots.p12 (law13_slots.l1 (law13_slots.l0 K k0) K k1) (law13_slots.l0 K k0) K x0A x0n x0c x3A x3n x3c x4 x7 x17A x17n x17c x18 x19 x37A x37n x37c x38 x39 w) ?_ ?_
                                ·
                                  exact sh_sound _ _ _ _ (Eq.mp (by kernel_rfl) h)
                                · intro σ w h
                                  obtain ⟨x0A, x0n, x0c, e0, h⟩ := vS_elim h
                                  obtain ⟨x3A, x3n, x3c, e3, h⟩ := vS_elim h
                                  obtain ⟨x4, e4, h⟩ := vI_elim h
                                  obtain ⟨x7, e7, h⟩ := vP_elim h
                                  obtain ⟨x17A, x17n, x17c, e17, h⟩ := vS_elim h
                                  obtain ⟨x18, e18, h⟩ := vI_elim h
                                  obtain ⟨x19, e19, h⟩ := vI_elim h
                                  obtain ⟨x37A, x37n, x37c, e37, h⟩ := vS_elim h
                                  obtain ⟨x38, e38, h⟩ := vI_elim h
                                  obtain ⟨x39, e39, h⟩ := vI_elim h
                                  refine J.sub ?_ (((((((((((Sub.base _).upd e0).upd e3).upd e4).upd e7).upd e17).upd e18).upd e19).upd e37).upd e38).upd e39)
                                  clear e0 e3 e4 e7 e17 e18 e19 e37 e38 e39
                                  refine J_block ?_
                                  refine J_loop (fun k σ w => vS (σ 0) fun x0A x0n x0c => vS (σ 3) fun x3A x3n x3c => vI .i64 (σ 4) fun x4 => vP (σ 7) fun x7 => vS (σ 17) fun x17A x17n x17c => vI .i64 (σ 18) fun x18 => vI .i64 (σ 19) fun x19 => vS (σ 37) fun x37A x37n x37c => vI .i64 (σ 38) fun x38 => vI .i64 (σ 39) fun x39 => law13_slots.l2 (law13_slots.l1 (law13_slots.l0 K k0) K k1) (law13_slots.l0 K k0) K k x0A x0n x0c x3A x3n x3c x4 x7 x17A x17n x17c x18 x19 x37A x37n x37c x38 x39 w) (Eq.mp (by kernel_rfl) h) ?_ ?_
                                  · intro σ w h
                                    obtain ⟨x0A, x0n, x0c, e0, h⟩ := vS_elim h
                                    obtain ⟨x3A, x3n, x3c, e3, h⟩ := vS_elim h
                                    obtain ⟨x4, e4, h⟩ := vI_elim h
                                    obtain ⟨x7, e7, h⟩ := vP_elim h
                                    obtain ⟨x17A, x17n, x17c, e17, h⟩ := vS_elim h
                                    obtain ⟨x18, e18, h⟩ := vI_elim h
                                    obtain ⟨x19, e19, h⟩ := vI_elim h
                                    obtain ⟨x37A, x37n, x37c, e37, h⟩ := vS_elim h
                                    obtain ⟨x38, e38, h⟩ := vI_elim h
                                    obtain ⟨x39, e39, h⟩ := vI_elim h
                                    exact h
                                  · intro k2 σ w h
                                    obtain ⟨x0A, x0n, x0c, e0, h⟩ := vS_elim h
                                    obtain ⟨x3A, x3n, x3c, e3, h⟩ := vS_elim h
                                    obtain ⟨x4, e4, h⟩ := vI_elim h
                                    obtain ⟨x7, e7, h⟩ := vP_elim h
                                    obtain ⟨x17A, x17n, x17c, e17, h⟩ := vS_elim h
                                    obtain ⟨x18, e18, h⟩ := vI_elim h
                                    obtain ⟨x19, e19, h⟩ := vI_elim h
                                    obtain ⟨x37A, x37n, x37c, e37, h⟩ := vS_elim h
                                    obtain ⟨x38, e38, h⟩ := vI_elim h
                                    obtain ⟨x39, e39, h⟩ := vI_elim h
                                    refine J.sub ?_ (((((((((((Sub.base _).upd e0).upd e3).upd e4).upd e7).upd e17).upd e18).upd e19).upd e37).upd e38).upd e39)
                                    clear e0 e3 e4 e7 e17 e18 e19 e37 e38 e39
                                    exact sh_sound _ _ _ _ (Eq.mp (by kernel_rfl) h)
                        · intro σ w h
                          obtain ⟨x0A, x0n, x0c, e0, h⟩ := vS_elim h
                          obtain ⟨x3A, x3n, x3c, e3, h⟩ := vS_elim h
                          obtain ⟨x4, e4, h⟩ := vI_elim h
                          obtain ⟨x17A, x17n, x17c, e17, h⟩ := vS_elim h
                          obtain ⟨x18, e18, h⟩ := vI_elim h
                          obtain ⟨x19, e19, h⟩ := vI_elim h
                          refine J.sub ?_ (((((((Sub.base _).upd e0).upd e3).upd e4).upd e17).upd e18).upd e19)
                          clear e0 e3 e4 e17 e18 e19
                          exact sh_sound _ _ _ _ (Eq.mp (by kernel_rfl) h)
              · intro σ w h
                obtain ⟨x0A, x0n, x0c, e0, h⟩ := vS_elim h
                obtain ⟨x3A, x3n, x3c, e3, h⟩ := vS_elim h
                obtain ⟨x4, e4, h⟩ := vI_elim h
                refine J.sub ?_ ((((Sub.base _).upd e0).upd e3).upd e4)
                clear e0 e3 e4
                exact sh_sound _ _ _ _ (Eq.mp (by kernel_rfl) h)
      · intro σ w h
        obtain ⟨x3A, x3n, x3c, e3, h⟩ := vS_elim h
        refine J.sub ?_ ((Sub.base _).upd e3)
        clear e3
        exact sh_sound _ _ _ _ (Eq.mp (by kernel_rfl) h)

/-! ### hayloft/class.Size: function 19 -/
abbrev class_Size.p4 (K : Value → World → Prop) (x3 : Int) (w : World) : Prop :=
  K (.int .i64 x3) w
abbrev class_Size.p3 (K : Value → World → Prop) (x0 : Int) (x3 : Int) (w : World) : Prop :=
  (2 : Int) ≠ 0 ∧ condP ((Int.tmod x0 2) == (1 : Int)) ((2 : Int) ≠ 0 ∧ class_Size.p4 K (IntKind.wrap .i64 (x3 + (IntKind.wrap .i64 (Int.tdiv x3 2)))) w) (class_Size.p4 K x3 w)
abbrev class_Size.p2 (K : Value → World → Prop) (x0 : Int) (w : World) : Prop :=
  (2 : Int) ≠ 0 ∧ 0 ≤ (IntKind.wrap .i64 (Int.tdiv x0 2)) ∧ class_Size.p3 K x0 (ishl .i64 16 (IntKind.wrap .i64 (Int.tdiv x0 2))) w
abbrev class_Size.p1 (K : Value → World → Prop) (x0 : Int) (x9 : Bool) (w : World) : Prop :=
  condP x9 (K (.int .i64 0) w) (class_Size.p2 K x0 w)
abbrev class_Size.p0 (K : Value → World → Prop) (x0 : Int) (w : World) : Prop :=
  condP (decide (x0 < (0 : Int))) (class_Size.p1 K x0 true w) (class_Size.p1 K x0 (decide ((7 : Int) ≤ x0)) w)
abbrev class_Size.F (q0 : Int) (K : Value → World → Prop) (w : World) : Prop :=
  class_Size.p0 K q0 w
theorem class_Size.ok {q0 : Int} {K : Value → World → Prop} {w : World} (h : class_Size.F q0 K w) :
    CallsE Tryd.prog 19 #[.int .i64 q0] w K := by
  refine calls_of_J (n := 21) (rs := [.tmp 2]) Tryd.func19 rfl rfl rfl rfl ?_
  refine J_seq (fun σ w => vI .i64 (σ 0) fun x0 => class_Size.p0 K x0 w) ?_ ?_
  ·
    exact sh_sound _ _ _ _ (Eq.mp (by kernel_rfl) h)
  · intro σ w h
    obtain ⟨x0, e0, h⟩ := vI_elim h
    refine J.sub ?_ ((Sub.base _).upd e0)
    clear e0
    refine J_seq (fun σ w => vI .i64 (σ 0) fun x0 => class_Size.p2 K x0 w) ?_ ?_
    ·
      refine J_seq (fun σ w => vI .i64 (σ 0) fun x0 => vB (σ 9) fun x9 => class_Size.p1 K x0 x9 w) ?_ ?_
      ·
        exact sh_sound _ _ _ _ (Eq.mp (by kernel_rfl) h)
      · intro σ w h
        obtain ⟨x0, e0, h⟩ := vI_elim h
        obtain ⟨x9, e9, h⟩ := vB_elim h
        refine J.sub ?_ (((Sub.base _).upd e0).upd e9)
        clear e0 e9
        exact sh_sound _ _ _ _ (Eq.mp (by kernel_rfl) h)
    · intro σ w h
      obtain ⟨x0, e0, h⟩ := vI_elim h
      refine J.sub ?_ ((Sub.base _).upd e0)
      clear e0
      refine J_seq (fun σ w => vI .i64 (σ 0) fun x0 => vI .i64 (σ 3) fun x3 => class_Size.p3 K x0 x3 w) ?_ ?_
      ·
        exact sh_sound _ _ _ _ (Eq.mp (by kernel_rfl) h)
      · intro σ w h
        obtain ⟨x0, e0, h⟩ := vI_elim h
        obtain ⟨x3, e3, h⟩ := vI_elim h
        refine J.sub ?_ (((Sub.base _).upd e0).upd e3)
        clear e0 e3
        refine J_seq (fun σ w => vI .i64 (σ 3) fun x3 => class_Size.p4 K x3 w) ?_ ?_
        ·
          exact sh_sound _ _ _ _ (Eq.mp (by kernel_rfl) h)
        · intro σ w h
          obtain ⟨x3, e3, h⟩ := vI_elim h
          refine J.sub ?_ ((Sub.base _).upd e3)
          clear e3
          exact sh_sound _ _ _ _ (Eq.mp (by kernel_rfl) h)

/-! ### hayloft/span.Of: function 20 -/
abbrev span_Of.p10 (L0 : Option Addr → Int → Option Addr → Nat → Nat → Int → Int → World → Prop) (K : Value → World → Prop) (x4 : Option Addr) (x6 : Int) (x23A : Option Addr) (x23n : Nat) (x23c : Nat) (x24 : Int) (x25 : Int) (w : World) : Prop :=
  L0 x4 x6 x23A x23n x23c x24 (IntKind.wrap .i64 (x25 + (1 : Int))) w
abbrev span_Of.p9 (L0 : Option Addr → Int → Option Addr → Nat → Nat → Int → Int → World → Prop) (K : Value → World → Prop) (x4 : Option Addr) (x8 : Int) (x23A : Option Addr) (x23n : Nat) (x23c : Nat) (x24 : Int) (x25 : Int) (w : World) : Prop :=
  span_Of.p10 L0 K x4 x8 x23A x23n x23c x24 x25 w
abbrev span_Of.p8 (L0 : Option Addr → Int → Option Addr → Nat → Nat → Int → Int → World → Prop) (K : Value → World → Prop) (x4 : Option Addr) (x8 : Int) (x23A : Option Addr) (x23n : Nat) (x23c : Nat) (x24 : Int) (x25 : Int) (x41 : Bool) (w : World) : Prop :=
  condP x41 (K (.tuple #[.pointer none, .int .i64 4]) w) (span_Of.p9 L0 K x4 x8 x23A x23n x23c x24 x25 w)
abbrev span_Of.p7 (L0 : Option Addr → Int → Option Addr → Nat → Nat → Int → Int → World → Prop) (K : Value → World → Prop) (x4 : Option Addr) (x6 : Int) (x8 : Int) (x23A : Option Addr) (x23n : Nat) (x23c : Nat) (x24 : Int) (x25 : Int) (w : World) : Prop :=
  condP (decide (x8 ≤ x6)) (span_Of.p8 L0 K x4 x8 x23A x23n x23c x24 x25 true w) (∃ (a14 : Addr), x4 = some a14 ∧ ∃ (p15 : Option Addr), w.cell? a14 = some (.pointer p15) ∧ CallsE Tryd.prog 38 #[.pointer p15, .int .i64 x8] w (fun v16 w17 => ∃ (b18 : Bool), v16 = .bool b18 ∧ span_Of.p8 L0 K x4 x8 x23A x23n x23c x24 x25 (!b18) w17))
abbrev span_Of.p6 (L0 : Option Addr → Int → Option Addr → Nat → Nat → Int → Int → World → Prop) (K : Value → World → Prop) (x4 : Option Addr) (x6 : Int) (x23A : Option Addr) (x23n : Nat) (x23c : Nat) (x24 : Int) (x25 : Int) (w : World) : Prop :=
  (0 ≤ x25 ∧ x25 < ((x23n : Nat) : Int)) ∧ ∃ (a12 : Addr), x23A = some a12 ∧ ∃ (n13 : Int), w.cell? (a12.add x25.toNat) = some (.int .i64 n13) ∧ span_Of.p7 L0 K x4 x6 n13 x23A x23n x23c x24 x25 w
abbrev span_Of.p11 (K : Value → World → Prop) (x4 : Option Addr) (w : World) : Prop :=
  K (.tuple #[.pointer x4, .int .i64 0]) w
abbrev span_Of.p5 (L0 : Option Addr → Int → Option Addr → Nat → Nat → Int → Int → World → Prop) (K : Value → World → Prop) (x4 : Option Addr) (x6 : Int) (x23A : Option Addr) (x23n : Nat) (x23c : Nat) (x24 : Int) (x25 : Int) (x26 : Bool) (w : World) : Prop :=
  condP x26 (span_Of.p6 L0 K x4 x6 x23A x23n x23c x24 x25 w) (span_Of.p11 K x4 w)
abbrev span_Of.b0 (L0 : Option Addr → Int → Option Addr → Nat → Nat → Int → Int → World → Prop) (K : Value → World → Prop) (x4 : Option Addr) (x6 : Int) (x23A : Option Addr) (x23n : Nat) (x23c : Nat) (x24 : Int) (x25 : Int) (w : World) : Prop :=
  span_Of.p5 L0 K x4 x6 x23A x23n x23c x24 x25 (decide (x25 < x24)) w
def span_Of.l0 (K : Value → World → Prop) (k : Nat) : Option Addr → Int → Option Addr → Nat → Nat → Int → Int → World → Prop :=
  Nat.rec (motive := fun _ => Option Addr → Int → Option Addr → Nat → Nat → Int → Int → World → Prop) (fun _ _ _ _ _ _ _ _ => False) (fun _ ih => span_Of.b0 ih K) k
theorem span_Of.l0_succ (K : Value → World → Prop) (k : Nat) (x4 : Option Addr) (x6 : Int) (x23A : Option Addr) (x23n : Nat) (x23c : Nat) (x24 : Int) (x25 : Int) (w : World) : span_Of.l0 K (k + 1) x4 x6 x23A x23n x23c x24 x25 w = span_Of.b0 (span_Of.l0 K k) K x4 x6 x23A x23n x23c x24 x25 w := rfl
abbrev span_Of.p4 (K : Value → World → Prop) (x4 : Option Addr) (x6 : Int) (x23A : Option Addr) (x23n : Nat) (x23c : Nat) (x24 : Int) (x25 : Int) (w : World) : Prop :=
  ∃ k, span_Of.l0 K k x4 x6 x23A x23n x23c x24 x25 w
abbrev span_Of.p3 (K : Value → World → Prop) (x1 : Addr) (x4 : Option Addr) (x6 : Int) (w : World) : Prop :=
  ∃ (A9 : Option Addr) (m10 : Nat) (c11 : Nat), w.cell? (x1.add 3) = some (.slice A9 m10 c11) ∧ span_Of.p4 K x4 x6 A9 m10 c11 ((m10 : Nat) : Int) 0 w
abbrev span_Of.p2 (K : Value → World → Prop) (x1 : Addr) (x4 : Option Addr) (w : World) : Prop :=
  span_Of.p3 K x1 x4 (-1) w
abbrev span_Of.p1 (K : Value → World → Prop) (x1 : Addr) (x4 : Option Addr) (x5 : Int) (w : World) : Prop :=
  condP (x5 != (0 : Int)) (K (.tuple #[.pointer none, .int .i64 x5]) w) (span_Of.p2 K x1 x4 w)
abbrev span_Of.p0 (K : Value → World → Prop) (x1 : Addr) (w : World) : Prop :=
  ∃ (n2 : Int), w.cell? x1 = some (.int .i64 n2) ∧ ∃ (n3 : Int), w.cell? (x1.add 1) = some (.int .i64 n3) ∧ ∃ (n4 : Int), w.cell? (x1.add 2) = some (.int .i64 n4) ∧ CallsE Tryd.prog 37 #[.int .i64 n2, .int .i64 n3, .int .i64 n4] w (fun v5 w6 => ∃ (p7 : Option Addr) (n8 : Int), v5 = .tuple #[.pointer p7, .int .i64 n8] ∧ span_Of.p1 K x1 p7 n8 w6)
abbrev span_Of.F (q0_0 : Int) (q0_1 : Int) (q0_2 : Int) (q0_3A : Option Addr) (q0_3n : Nat) (q0_3c : Nat) (K : Value → World → Prop) (w : World) : Prop :=
  wlet (w.alloc (.cells #[.int .i64 q0_0, .int .i64 q0_1, .int .i64 q0_2, .slice q0_3A q0_3n q0_3c] 46)) fun w1 => span_Of.p0 K (⟨w.heap.size, 0, none⟩) w1
theorem span_Of.ok {q0_0 : Int} {q0_1 : Int} {q0_2 : Int} {q0_3A : Option Addr} {q0_3n : Nat} {q0_3c : Nat} {K : Value → World → Prop} {w : World} (h : span_Of.F q0_0 q0_1 q0_2 q0_3A q0_3n q0_3c K w) :
    CallsE Tryd.prog 20 #[.agg #[.int .i64 q0_0, .int .i64 q0_1, .int .i64 q0_2, .slice q0_3A q0_3n q0_3c]] w K := by
  refine calls_of_J (n := 45) (rs := [.tmp 2, .tmp 3]) Tryd.func20 rfl rfl rfl rfl ?_
  refine J_seq (fun σ w => vPa (σ 1) fun x1 => span_Of.p0 K x1 w) ?_ ?_
  ·
    exact sh_sound _ _ _ _ (Eq.mp (by kernel_rfl) h)
  · intro σ w h
    obtain ⟨x1, e1, h⟩ := vPa_elim h
    refine J.sub ?_ ((Sub.base _).upd e1)
    clear e1
    refine J_seq (fun σ w => vPa (σ 1) fun x1 => vP (σ 4) fun x4 => vI .i64 (σ 5) fun x5 => span_Of.p1 K x1 x4 x5 w) ?_ ?_
    ·
      exact sh_sound _ _ _ _ (Eq.mp (by kernel_rfl) h)
    · intro σ w h
      obtain ⟨x1, e1, h⟩ := vPa_elim h
      obtain ⟨x4, e4, h⟩ := vP_elim h
      obtain ⟨x5, e5, h⟩ := vI_elim h
      refine J.sub ?_ ((((Sub.base _).upd e1).upd e4).upd e5)
      clear e1 e4 e5
      refine J_seq (fun σ w => vPa (σ 1) fun x1 => vP (σ 4) fun x4 => span_Of.p2 K x1 x4 w) ?_ ?_
      ·
        exact sh_sound _ _ _ _ (Eq.mp (by kernel_rfl) h)
      · intro σ w h
        obtain ⟨x1, e1, h⟩ := vPa_elim h
        obtain ⟨x4, e4, h⟩ := vP_elim h
        refine J.sub ?_ (((Sub.base _).upd e1).upd e4)
        clear e1 e4
        refine J_seq (fun σ w => vPa (σ 1) fun x1 => vP (σ 4) fun x4 => vI .i64 (σ 6) fun x6 => span_Of.p3 K x1 x4 x6 w) ?_ ?_
        ·
          exact sh_sound _ _ _ _ (Eq.mp (by kernel_rfl) h)
        · intro σ w h
          obtain ⟨x1, e1, h⟩ := vPa_elim h
          obtain ⟨x4, e4, h⟩ := vP_elim h
          obtain ⟨x6, e6, h⟩ := vI_elim h
          refine J.sub ?_ ((((Sub.base _).upd e1).upd e4).upd e6)
          clear e1 e4 e6
          refine J_seq (fun σ w => vP (σ 4) fun x4 => span_Of.p11 K x4 w) ?_ ?_
          ·
            refine J_seq (fun σ w => vP (σ 4) fun x4 => vI .i64 (σ 6) fun x6 => vS (σ 23) fun x23A x23n x23c => vI .i64 (σ 24) fun x24 => vI .i64 (σ 25) fun x25 => span_Of.p4 K x4 x6 x23A x23n x23c x24 x25 w) ?_ ?_
            ·
              exact sh_sound _ _ _ _ (Eq.mp (by kernel_rfl) h)
            · intro σ w h
              obtain ⟨x4, e4, h⟩ := vP_elim h
              obtain ⟨x6, e6, h⟩ := vI_elim h
              obtain ⟨x23A, x23n, x23c, e23, h⟩ := vS_elim h
              obtain ⟨x24, e24, h⟩ := vI_elim h
              obtain ⟨x25, e25, h⟩ := vI_elim h
              refine J.sub ?_ ((((((Sub.base _).upd e4).upd e6).upd e23).upd e24).upd e25)
              clear e4 e6 e23 e24 e25
              refine J_block ?_
              refine J_loop (fun k σ w => vP (σ 4) fun x4 => vI .i64 (σ 6) fun x6 => vS (σ 23) fun x23A x23n x23c => vI .i64 (σ 24) fun x24 => vI .i64 (σ 25) fun x25 => span_Of.l0 K k x4 x6 x23A x23n x23c x24 x25 w) (Eq.mp (by kernel_rfl) h) ?_ ?_
              · intro σ w h
                obtain ⟨x4, e4, h⟩ := vP_elim h
                obtain ⟨x6, e6, h⟩ := vI_elim h
                obtain ⟨x23A, x23n, x23c, e23, h⟩ := vS_elim h
                obtain ⟨x24, e24, h⟩ := vI_elim h
                obtain ⟨x25, e25, h⟩ := vI_elim h
                exact h
              · intro k0 σ w h
                obtain ⟨x4, e4, h⟩ := vP_elim h
                obtain ⟨x6, e6, h⟩ := vI_elim h
                obtain ⟨x23A, x23n, x23c, e23, h⟩ := vS_elim h
                obtain ⟨x24, e24, h⟩ := vI_elim h
                obtain ⟨x25, e25, h⟩ := vI_elim h
                refine J.sub ?_ ((((((Sub.base _).upd e4).upd e6).upd e23).upd e24).upd e25)
                clear e4 e6 e23 e24 e25
                refine J_seq (fun σ w => vP (σ 4) fun x4 => vI .i64 (σ 6) fun x6 => vS (σ 23) fun x23A x23n x23c => vI .i64 (σ 24) fun x24 => vI .i64 (σ 25) fun x25 => vB (σ 26) fun x26 => span_Of.p5 (span_Of.l0 K k0) K x4 x6 x23A x23n x23c x24 x25 x26 w) ?_ ?_
                ·
                  exact sh_sound _ _ _ _ (Eq.mp (by kernel_rfl) h)
                · intro σ w h
                  obtain ⟨x4, e4, h⟩ := vP_elim h
                  obtain ⟨x6, e6, h⟩ := vI_elim h
                  obtain ⟨x23A, x23n, x23c, e23, h⟩ := vS_elim h
                  obtain ⟨x24, e24, h⟩ := vI_elim h
                  obtain ⟨x25, e25, h⟩ := vI_elim h
                  obtain ⟨x26, e26, h⟩ := vB_elim h
                  refine J.sub ?_ (((((((Sub.base _).upd e4).upd e6).upd e23).upd e24).upd e25).upd e26)
                  clear e4 e6 e23 e24 e25 e26
                  refine J_seq (fun σ w => vP (σ 4) fun x4 => vI .i64 (σ 6) fun x6 => vS (σ 23) fun x23A x23n x23c => vI .i64 (σ 24) fun x24 => vI .i64 (σ 25) fun x25 => span_Of.p6 (span_Of.l0 K k0) K x4 x6 x23A x23n x23c x24 x25 w) ?_ ?_
                  ·
                    exact sh_sound _ _ _ _ (Eq.mp (by kernel_rfl) h)
                  · intro σ w h
                    obtain ⟨x4, e4, h⟩ := vP_elim h
                    obtain ⟨x6, e6, h⟩ := vI_elim h
                    obtain ⟨x23A, x23n, x23c, e23, h⟩ := vS_elim h
                    obtain ⟨x24, e24, h⟩ := vI_elim h
                    obtain ⟨x25, e25, h⟩ := vI_elim h
                    refine J.sub ?_ ((((((Sub.base _).upd e4).upd e6).upd e23).upd e24).upd e25)
                    clear e4 e6 e23 e24 e25
                    refine J_seq (fun σ w => vP (σ 4) fun x4 => vI .i64 (σ 6) fun x6 => vS (σ 23) fun x23A x23n x23c => vI .i64 (σ 24) fun x24 => vI .i64 (σ 25) fun x25 => span_Of.p10 (span_Of.l0 K k0) K x4 x6 x23A x23n x23c x24 x25 w) ?_ ?_
                    ·
                      refine J_block ?_
                      refine J_seq (fun σ w => vP (σ 4) fun x4 => vI .i64 (σ 6) fun x6 => vI .i64 (σ 8) fun x8 => vS (σ 23) fun x23A x23n x23c => vI .i64 (σ 24) fun x24 => vI .i64 (σ 25) fun x25 => span_Of.p7 (span_Of.l0 K k0) K x4 x6 x8 x23A x23n x23c x24 x25 w) ?_ ?_
                      ·
                        exact sh_sound _ _ _ _ (Eq.mp (by kernel_rfl) h)
                      · intro σ w h
                        obtain ⟨x4, e4, h⟩ := vP_elim h
                        obtain ⟨x6, e6, h⟩ := vI_elim h
                        obtain ⟨x8, e8, h⟩ := vI_elim h
                        obtain ⟨x23A, x23n, x23c, e23, h⟩ := vS_elim h
                        obtain ⟨x24, e24, h⟩ := vI_elim h
                        obtain ⟨x25, e25, h⟩ := vI_elim h
                        refine J.sub ?_ (((((((Sub.base _).upd e4).upd e6).upd e8).upd e23).upd e24).upd e25)
                        clear e4 e6 e8 e23 e24 e25
                        refine J_seq (fun σ w => vP (σ 4) fun x4 => vI .i64 (σ 8) fun x8 => vS (σ 23) fun x23A x23n x23c => vI .i64 (σ 24) fun x24 => vI .i64 (σ 25) fun x25 => span_Of.p9 (span_Of.l0 K k0) K x4 x8 x23A x23n x23c x24 x25 w) ?_ ?_
                        ·
                          refine J_seq (fun σ w => vP (σ 4) fun x4 => vI .i64 (σ 8) fun x8 => vS (σ 23) fun x23A x23n x23c => vI .i64 (σ 24) fun x24 => vI .i64 (σ 25) fun x25 => vB (σ 41) fun x41 => span_Of.p8 (span_Of.l0 K k0) K x4 x8 x23A x23n x23c x24 x25 x41 w) ?_ ?_
                          ·
                            exact sh_sound _ _ _ _ (Eq.mp (by kernel_rfl) h)
                          · intro σ w h
                            obtain ⟨x4, e4, h⟩ := vP_elim h
                            obtain ⟨x8, e8, h⟩ := vI_elim h
                            obtain ⟨x23A, x23n, x23c, e23, h⟩ := vS_elim h
                            obtain ⟨x24, e24, h⟩ := vI_elim h
                            obtain ⟨x25, e25, h⟩ := vI_elim h
                            obtain ⟨x41, e41, h⟩ := vB_elim h
                            refine J.sub ?_ (((((((Sub.base _).upd e4).upd e8).upd e23).upd e24).upd e25).upd e41)
                            clear e4 e8 e23 e24 e25 e41
                            exact sh_sound _ _ _ _ (Eq.mp (by kernel_rfl) h)
                        · intro σ w h
                          obtain ⟨x4, e4, h⟩ := vP_elim h
                          obtain ⟨x8, e8, h⟩ := vI_elim h
                          obtain ⟨x23A, x23n, x23c, e23, h⟩ := vS_elim h
                          obtain ⟨x24, e24, h⟩ := vI_elim h
                          obtain ⟨x25, e25, h⟩ := vI_elim h
                          refine J.sub ?_ ((((((Sub.base _).upd e4).upd e8).upd e23).upd e24).upd e25)
                          clear e4 e8 e23 e24 e25
                          exact sh_sound _ _ _ _ (Eq.mp (by kernel_rfl) h)
                    · intro σ w h
                      obtain ⟨x4, e4, h⟩ := vP_elim h
                      obtain ⟨x6, e6, h⟩ := vI_elim h
                      obtain ⟨x23A, x23n, x23c, e23, h⟩ := vS_elim h
                      obtain ⟨x24, e24, h⟩ := vI_elim h
                      obtain ⟨x25, e25, h⟩ := vI_elim h
                      refine J.sub ?_ ((((((Sub.base _).upd e4).upd e6).upd e23).upd e24).upd e25)
                      clear e4 e6 e23 e24 e25
                      exact sh_sound _ _ _ _ (Eq.mp (by kernel_rfl) h)
          · intro σ w h
            obtain ⟨x4, e4, h⟩ := vP_elim h
            refine J.sub ?_ ((Sub.base _).upd e4)
            clear e4
            exact sh_sound _ _ _ _ (Eq.mp (by kernel_rfl) h)

/-! ### (*hayloft/span.Span).Live: function 21 -/
abbrev span_Span_Live.F (q0 : Option Addr) (K : Value → World → Prop) (w : World) : Prop :=
  condP q0.isNone (K (.int .i64 0) w) (∃ (a1 : Addr), q0 = some a1 ∧ ∃ (p2 : Option Addr), w.cell? a1 = some (.pointer p2) ∧ CallsE Tryd.prog 39 #[.agg #[.pointer p2]] w (fun v3 w4 => ∃ (n5 : Int), v3 = .int .i64 n5 ∧ K (.int .i64 n5) w4))
theorem span_Span_Live.ok {q0 : Option Addr} {K : Value → World → Prop} {w : World} (h : span_Span_Live.F q0 K w) :
    CallsE Tryd.prog 21 #[.pointer q0] w K := by
  refine calls_of_J (n := 10) (rs := [.tmp 2]) Tryd.func21 rfl rfl rfl rfl ?_
  exact sh_sound _ _ _ _ (Eq.mp (by kernel_rfl) h)

/-! ### (*hayloft/span.Span).Pages: function 22 -/
abbrev span_Span_Pages.F (q0 : Option Addr) (K : Value → World → Prop) (w : World) : Prop :=
  condP q0.isNone (K (.int .i64 0) w) (∃ (a1 : Addr), q0 = some a1 ∧ ∃ (n2 : Int), w.cell? (a1.add 2) = some (.int .i64 n2) ∧ K (.int .i64 n2) w)
theorem span_Span_Pages.ok {q0 : Option Addr} {K : Value → World → Prop} {w : World} (h : span_Span_Pages.F q0 K w) :
    CallsE Tryd.prog 22 #[.pointer q0] w K := by
  refine calls_of_J (n := 9) (rs := [.tmp 2]) Tryd.func22 rfl rfl rfl rfl ?_
  exact sh_sound _ _ _ _ (Eq.mp (by kernel_rfl) h)

/-! ### (*hayloft/span.Span).Slots: function 23 -/
abbrev span_Span_Slots.F (q0 : Option Addr) (K : Value → World → Prop) (w : World) : Prop :=
  condP q0.isNone (K (.int .i64 0) w) (∃ (a1 : Addr), q0 = some a1 ∧ ∃ (p2 : Option Addr), w.cell? a1 = some (.pointer p2) ∧ CallsE Tryd.prog 40 #[.agg #[.pointer p2]] w (fun v3 w4 => ∃ (n5 : Int), v3 = .int .i64 n5 ∧ K (.int .i64 n5) w4))
theorem span_Span_Slots.ok {q0 : Option Addr} {K : Value → World → Prop} {w : World} (h : span_Span_Slots.F q0 K w) :
    CallsE Tryd.prog 23 #[.pointer q0] w K := by
  refine calls_of_J (n := 10) (rs := [.tmp 2]) Tryd.func23 rfl rfl rfl rfl ?_
  exact sh_sound _ _ _ _ (Eq.mp (by kernel_rfl) h)

/-! ### hayloft/class.Need: function 24 -/
abbrev class_Need.p9 (L0 : Addr → Int → Option Addr → Nat → Nat → Int → Int → World → Prop) (K : Value → World → Prop) (x3 : Addr) (x4 : Int) (x10A : Option Addr) (x10n : Nat) (x10c : Nat) (x11 : Int) (x12 : Int) (w : World) : Prop :=
  L0 x3 x4 x10A x10n x10c x11 (IntKind.wrap .i64 (x12 + (1 : Int))) w
abbrev class_Need.p8 (L0 : Addr → Int → Option Addr → Nat → Nat → Int → Int → World → Prop) (K : Value → World → Prop) (x3 : Addr) (x4 : Int) (x6 : Int) (x7 : Int) (x10A : Option Addr) (x10n : Nat) (x10c : Nat) (x11 : Int) (x12 : Int) (x23 : Bool) (w : World) : Prop :=
  condP x23 ((0 ≤ x7 ∧ x7 < ((7 : Nat) : Int)) ∧ ∃ (n7 : Int), w.cell? (x3.add x7.toNat) = some (.int .i64 n7) ∧ (0 ≤ x7 ∧ x7 < ((7 : Nat) : Int)) ∧ canStore w (x3.add x7.toNat) ∧ wlet (w.setCell (x3.add x7.toNat) (.int .i64 (IntKind.wrap .i64 (n7 + (1 : Int))))) fun w8 => class_Need.p9 L0 K x3 x4 x10A x10n x10c x11 x12 w8) (CallsE Tryd.prog 42 #[.int .i64 x6] w (fun v9 w10 => ∃ (n11 : Int), v9 = .int .i64 n11 ∧ class_Need.p9 L0 K x3 (IntKind.wrap .i64 (x4 + n11)) x10A x10n x10c x11 x12 w10))
abbrev class_Need.p7 (L0 : Addr → Int → Option Addr → Nat → Nat → Int → Int → World → Prop) (K : Value → World → Prop) (x3 : Addr) (x4 : Int) (x6 : Int) (x7 : Int) (x10A : Option Addr) (x10n : Nat) (x10c : Nat) (x11 : Int) (x12 : Int) (w : World) : Prop :=
  condP (decide ((0 : Int) ≤ x7)) (class_Need.p8 L0 K x3 x4 x6 x7 x10A x10n x10c x11 x12 (decide (x7 < (7 : Int))) w) (class_Need.p8 L0 K x3 x4 x6 x7 x10A x10n x10c x11 x12 false w)
abbrev class_Need.p6 (L0 : Addr → Int → Option Addr → Nat → Nat → Int → Int → World → Prop) (K : Value → World → Prop) (x3 : Addr) (x4 : Int) (x6 : Int) (x10A : Option Addr) (x10n : Nat) (x10c : Nat) (x11 : Int) (x12 : Int) (w : World) : Prop :=
  CallsE Tryd.prog 41 #[.int .i64 x6] w (fun v4 w5 => ∃ (n6 : Int), v4 = .int .i64 n6 ∧ class_Need.p7 L0 K x3 x4 x6 n6 x10A x10n x10c x11 x12 w5)
abbrev class_Need.p5 (L0 : Addr → Int → Option Addr → Nat → Nat → Int → Int → World → Prop) (K : Value → World → Prop) (x3 : Addr) (x4 : Int) (x10A : Option Addr) (x10n : Nat) (x10c : Nat) (x11 : Int) (x12 : Int) (w : World) : Prop :=
  (0 ≤ x12 ∧ x12 < ((x10n : Nat) : Int)) ∧ ∃ (a2 : Addr), x10A = some a2 ∧ ∃ (n3 : Int), w.cell? (a2.add x12.toNat) = some (.int .i64 n3) ∧ class_Need.p6 L0 K x3 x4 n3 x10A x10n x10c x11 x12 w
abbrev class_Need.p12 (K : Value → World → Prop) (x4 : Int) (w : World) : Prop :=
  K (.int .i64 x4) w
abbrev class_Need.b1 (L1 : Int → Int → Int → Int → Int → Int → Int → Int → Int → World → Prop) (K : Value → World → Prop) (x4 : Int) (x34_0 : Int) (x34_1 : Int) (x34_2 : Int) (x34_3 : Int) (x34_4 : Int) (x34_5 : Int) (x34_6 : Int) (x35 : Int) (w : World) : Prop :=
  condP (decide (x35 < (7 : Int))) ((0 ≤ x35 ∧ x35 < ((7 : Nat) : Int)) ∧ ∃ (n19 : Int), ([.int .i64 x34_0, .int .i64 x34_1, .int .i64 x34_2, .int .i64 x34_3, .int .i64 x34_4, .int .i64 x34_5, .int .i64 x34_6] : List Value)[x35.toNat]? = some (.int .i64 n19) ∧ CallsE Tryd.prog 43 #[.int .i64 x35] w (fun v20 w21 => ∃ (n22 : Int), v20 = .int .i64 n22 ∧ CallsE Tryd.prog 43 #[.int .i64 x35] w21 (fun v23 w24 => ∃ (n25 : Int), v23 = .int .i64 n25 ∧ n25 ≠ 0 ∧ L1 (IntKind.wrap .i64 (x4 + (IntKind.wrap .i64 (Int.tdiv (IntKind.wrap .i64 ((IntKind.wrap .i64 (n19 + n22)) - (1 : Int))) n25)))) x34_0 x34_1 x34_2 x34_3 x34_4 x34_5 x34_6 (IntKind.wrap .i64 (x35 + (1 : Int))) w24))) (class_Need.p12 K x4 w)
def class_Need.l1 (K : Value → World → Prop) (k : Nat) : Int → Int → Int → Int → Int → Int → Int → Int → Int → World → Prop :=
  Nat.rec (motive := fun _ => Int → Int → Int → Int → Int → Int → Int → Int → Int → World → Prop) (fun _ _ _ _ _ _ _ _ _ _ => False) (fun _ ih => class_Need.b1 ih K) k
theorem class_Need.l1_succ (K : Value → World → Prop) (k : Nat) (x4 : Int) (x34_0 : Int) (x34_1 : Int) (x34_2 : Int) (x34_3 : Int) (x34_4 : Int) (x34_5 : Int) (x34_6 : Int) (x35 : Int) (w : World) : class_Need.l1 K (k + 1) x4 x34_0 x34_1 x34_2 x34_3 x34_4 x34_5 x34_6 x35 w = class_Need.b1 (class_Need.l1 K k) K x4 x34_0 x34_1 x34_2 x34_3 x34_4 x34_5 x34_6 x35 w := rfl
abbrev class_Need.p11 (K : Value → World → Prop) (x4 : Int) (x34_0 : Int) (x34_1 : Int) (x34_2 : Int) (x34_3 : Int) (x34_4 : Int) (x34_5 : Int) (x34_6 : Int) (x35 : Int) (w : World) : Prop :=
  ∃ k, class_Need.l1 K k x4 x34_0 x34_1 x34_2 x34_3 x34_4 x34_5 x34_6 x35 w
abbrev class_Need.p10 (K : Value → World → Prop) (x3 : Addr) (x4 : Int) (w : World) : Prop :=
  ∃ (n12 : Int), w.cell? x3 = some (.int .i64 n12) ∧ ∃ (n13 : Int), w.cell? (x3.add 1) = some (.int .i64 n13) ∧ ∃ (n14 : Int), w.cell? (x3.add 2) = some (.int .i64 n14) ∧ ∃ (n15 : Int), w.cell? (x3.add 3) = some (.int .i64 n15) ∧ ∃ (n16 : Int), w.cell? (x3.add 4) = some (.int .i64 n16) ∧ ∃ (n17 : Int), w.cell? (x3.add 5) = some (.int .i64 n17) ∧ ∃ (n18 : Int), w.cell? (x3.add 6) = some (.int .i64 n18) ∧ class_Need.p11 K x4 n12 n13 n14 n15 n16 n17 n18 0 w
abbrev class_Need.p4 (L0 : Addr → Int → Option Addr → Nat → Nat → Int → Int → World → Prop) (K : Value → World → Prop) (x3 : Addr) (x4 : Int) (x10A : Option Addr) (x10n : Nat) (x10c : Nat) (x11 : Int) (x12 : Int) (x13 : Bool) (w : World) : Prop :=
  condP x13 (class_Need.p5 L0 K x3 x4 x10A x10n x10c x11 x12 w) (class_Need.p10 K x3 x4 w)
abbrev class_Need.b0 (L0 : Addr → Int → Option Addr → Nat → Nat → Int → Int → World → Prop) (K : Value → World → Prop) (x3 : Addr) (x4 : Int) (x10A : Option Addr) (x10n : Nat) (x10c : Nat) (x11 : Int) (x12 : Int) (w : World) : Prop :=
  class_Need.p4 L0 K x3 x4 x10A x10n x10c x11 x12 (decide (x12 < x11)) w
def class_Need.l0 (K : Value → World → Prop) (k : Nat) : Addr → Int → Option Addr → Nat → Nat → Int → Int → World → Prop :=
  Nat.rec (motive := fun _ => Addr → Int → Option Addr → Nat → Nat → Int → Int → World → Prop) (fun _ _ _ _ _ _ _ _ => False) (fun _ ih => class_Need.b0 ih K) k
theorem class_Need.l0_succ (K : Value → World → Prop) (k : Nat) (x3 : Addr) (x4 : Int) (x10A : Option Addr) (x10n : Nat) (x10c : Nat) (x11 : Int) (x12 : Int) (w : World) : class_Need.l0 K (k + 1) x3 x4 x10A x10n x10c x11 x12 w = class_Need.b0 (class_Need.l0 K k) K x3 x4 x10A x10n x10c x11 x12 w := rfl
abbrev class_Need.p3 (K : Value → World → Prop) (x3 : Addr) (x4 : Int) (x10A : Option Addr) (x10n : Nat) (x10c : Nat) (x11 : Int) (x12 : Int) (w : World) : Prop :=
  ∃ k, class_Need.l0 K k x3 x4 x10A x10n x10c x11 x12 w
abbrev class_Need.p2 (K : Value → World → Prop) (x0A : Option Addr) (x0n : Nat) (x0c : Nat) (x3 : Addr) (x4 : Int) (w : World) : Prop :=
  class_Need.p3 K x3 x4 x0A x0n x0c ((x0n : Nat) : Int) 0 w
abbrev class_Need.p1 (K : Value → World → Prop) (x0A : Option Addr) (x0n : Nat) (x0c : Nat) (x3 : Addr) (w : World) : Prop :=
  class_Need.p2 K x0A x0n x0c x3 0 w
abbrev class_Need.p0 (K : Value → World → Prop) (x0A : Option Addr) (x0n : Nat) (x0c : Nat) (w : World) : Prop :=
  wlet (w.alloc (.cells #[.int .i64 0, .int .i64 0, .int .i64 0, .int .i64 0, .int .i64 0, .int .i64 0, .int .i64 0] 75)) fun w1 => class_Need.p1 K x0A x0n x0c (⟨w.heap.size, 0, none⟩) w1
abbrev class_Need.F (q0A : Option Addr) (q0n : Nat) (q0c : Nat) (K : Value → World → Prop) (w : World) : Prop :=
  class_Need.p0 K q0A q0n q0c w
theorem class_Need.ok {q0A : Option Addr} {q0n : Nat} {q0c : Nat} {K : Value → World → Prop} {w : World} (h : class_Need.F q0A q0n q0c K w) :
    CallsE Tryd.prog 24 #[.slice q0A q0n q0c] w K := by
  refine calls_of_J (n := 51) (rs := [.tmp 2]) Tryd.func24 rfl rfl rfl rfl ?_
  refine J_seq (fun σ w => vS (σ 0) fun x0A x0n x0c => class_Need.p0 K x0A x0n x0c w) ?_ ?_
  ·
    exact sh_sound _ _ _ _ (Eq.mp (by kernel_rfl) h)
  · intro σ w h
    obtain ⟨x0A, x0n, x0c, e0, h⟩ := vS_elim h
    refine J.sub ?_ ((Sub.base _).upd e0)
    clear e0
    refine J_seq (fun σ w => vS (σ 0) fun x0A x0n x0c => vPa (σ 3) fun x3 => class_Need.p1 K x0A x0n x0c x3 w) ?_ ?_
    ·
      exact sh_sound _ _ _ _ (Eq.mp (by kernel_rfl) h)
    · intro σ w h
      obtain ⟨x0A, x0n, x0c, e0, h⟩ := vS_elim h
      obtain ⟨x3, e3, h⟩ := vPa_elim h
      refine J.sub ?_ (((Sub.base _).upd e0).upd e3)
      clear e0 e3
      refine J_seq (fun σ w => vS (σ 0) fun x0A x0n x0c => vPa (σ 3) fun x3 => vI .i64 (σ 4) fun x4 => class_Need.p2 K x0A x0n x0c x3 x4 w) ?_ ?_
      ·
        exact sh_sound _ _ _ _ (Eq.mp (by kernel_rfl) h)
      · intro σ w h
        obtain ⟨x0A, x0n, x0c, e0, h⟩ := vS_elim h
        obtain ⟨x3, e3, h⟩ := vPa_elim h
        obtain ⟨x4, e4, h⟩ := vI_elim h
        refine J.sub ?_ ((((Sub.base _).upd e0).upd e3).upd e4)
        clear e0 e3 e4
        refine J_seq (fun σ w => vPa (σ 3) fun x3 => vI .i64 (σ 4) fun x4 => class_Need.p10 K x3 x4 w) ?_ ?_
        ·
          refine J_seq (fun σ w => vPa (σ 3) fun x3 => vI .i64 (σ 4) fun x4 => vS (σ 10) fun x10A x10n x10c => vI .i64 (σ 11) fun x11 => vI .i64 (σ 12) fun x12 => class_Need.p3 K x3 x4 x10A x10n x10c x11 x12 w) ?_ ?_
          ·
            exact sh_sound _ _ _ _ (Eq.mp (by kernel_rfl) h)
          · intro σ w h
            obtain ⟨x3, e3, h⟩ := vPa_elim h
            obtain ⟨x4, e4, h⟩ := vI_elim h
            obtain ⟨x10A, x10n, x10c, e10, h⟩ := vS_elim h
            obtain ⟨x11, e11, h⟩ := vI_elim h
            obtain ⟨x12, e12, h⟩ := vI_elim h
            refine J.sub ?_ ((((((Sub.base _).upd e3).upd e4).upd e10).upd e11).upd e12)
            clear e3 e4 e10 e11 e12
            refine J_block ?_
            refine J_loop (fun k σ w => vPa (σ 3) fun x3 => vI .i64 (σ 4) fun x4 => vS (σ 10) fun x10A x10n x10c => vI .i64 (σ 11) fun x11 => vI .i64 (σ 12) fun x12 => class_Need.l0 K k x3 x4 x10A x10n x10c x11 x12 w) (Eq.mp (by kernel_rfl) h) ?_ ?_
            · intro σ w h
              obtain ⟨x3, e3, h⟩ := vPa_elim h
              obtain ⟨x4, e4, h⟩ := vI_elim h
              obtain ⟨x10A, x10n, x10c, e10, h⟩ := vS_elim h
              obtain ⟨x11, e11, h⟩ := vI_elim h
              obtain ⟨x12, e12, h⟩ := vI_elim h
              exact h
            · intro k0 σ w h
              obtain ⟨x3, e3, h⟩ := vPa_elim h
              obtain ⟨x4, e4, h⟩ := vI_elim h
              obtain ⟨x10A, x10n, x10c, e10, h⟩ := vS_elim h
              obtain ⟨x11, e11, h⟩ := vI_elim h
              obtain ⟨x12, e12, h⟩ := vI_elim h
              refine J.sub ?_ ((((((Sub.base _).upd e3).upd e4).upd e10).upd e11).upd e12)
              clear e3 e4 e10 e11 e12
              refine J_seq (fun σ w => vPa (σ 3) fun x3 => vI .i64 (σ 4) fun x4 => vS (σ 10) fun x10A x10n x10c => vI .i64 (σ 11) fun x11 => vI .i64 (σ 12) fun x12 => vB (σ 13) fun x13 => class_Need.p4 (class_Need.l0 K k0) K x3 x4 x10A x10n x10c x11 x12 x13 w) ?_ ?_
              ·
                exact sh_sound _ _ _ _ (Eq.mp (by kernel_rfl) h)
              · intro σ w h
                obtain ⟨x3, e3, h⟩ := vPa_elim h
                obtain ⟨x4, e4, h⟩ := vI_elim h
                obtain ⟨x10A, x10n, x10c, e10, h⟩ := vS_elim h
                obtain ⟨x11, e11, h⟩ := vI_elim h
                obtain ⟨x12, e12, h⟩ := vI_elim h
                obtain ⟨x13, e13, h⟩ := vB_elim h
                refine J.sub ?_ (((((((Sub.base _).upd e3).upd e4).upd e10).upd e11).upd e12).upd e13)
                clear e3 e4 e10 e11 e12 e13
                refine J_seq (fun σ w => vPa (σ 3) fun x3 => vI .i64 (σ 4) fun x4 => vS (σ 10) fun x10A x10n x10c => vI .i64 (σ 11) fun x11 => vI .i64 (σ 12) fun x12 => class_Need.p5 (class_Need.l0 K k0) K x3 x4 x10A x10n x10c x11 x12 w) ?_ ?_
                ·
                  exact sh_sound _ _ _ _ (Eq.mp (by kernel_rfl) h)
                · intro σ w h
                  obtain ⟨x3, e3, h⟩ := vPa_elim h
                  obtain ⟨x4, e4, h⟩ := vI_elim h
                  obtain ⟨x10A, x10n, x10c, e10, h⟩ := vS_elim h
                  obtain ⟨x11, e11, h⟩ := vI_elim h
                  obtain ⟨x12, e12, h⟩ := vI_elim h
                  refine J.sub ?_ ((((((Sub.base _).upd e3).upd e4).upd e10).upd e11).upd e12)
                  clear e3 e4 e10 e11 e12
                  refine J_seq (fun σ w => vPa (σ 3) fun x3 => vI .i64 (σ 4) fun x4 => vS (σ 10) fun x10A x10n x10c => vI .i64 (σ 11) fun x11 => vI .i64 (σ 12) fun x12 => class_Need.p9 (class_Need.l0 K k0) K x3 x4 x10A x10n x10c x11 x12 w) ?_ ?_
                  ·
                    refine J_block ?_
                    refine J_seq (fun σ w => vPa (σ 3) fun x3 => vI .i64 (σ 4) fun x4 => vI .i64 (σ 6) fun x6 => vS (σ 10) fun x10A x10n x10c => vI .i64 (σ 11) fun x11 => vI .i64 (σ 12) fun x12 => class_Need.p6 (class_Need.l0 K k0) K x3 x4 x6 x10A x10n x10c x11 x12 w) ?_ ?_
                    ·
                      exact sh_sound _ _ _ _ (Eq.mp (by kernel_rfl) h)
                    · intro σ w h
                      obtain ⟨x3, e3, h⟩ := vPa_elim h
                      obtain ⟨x4, e4, h⟩ := vI_elim h
                      obtain ⟨x6, e6, h⟩ := vI_elim h
                      obtain ⟨x10A, x10n, x10c, e10, h⟩ := vS_elim h
                      obtain ⟨x11, e11, h⟩ := vI_elim h
                      obtain ⟨x12, e12, h⟩ := vI_elim h
                      refine J.sub ?_ (((((((Sub.base _).upd e3).upd e4).upd e6).upd e10).upd e11).upd e12)
                      clear e3 e4 e6 e10 e11 e12
                      refine J_seq (fun σ w => vPa (σ 3) fun x3 => vI .i64 (σ 4) fun x4 => vI .i64 (σ 6) fun x6 => vI .i64 (σ 7) fun x7 => vS (σ 10) fun x10A x10n x10c => vI .i64 (σ 11) fun x11 => vI .i64 (σ 12) fun x12 => class_Need.p7 (class_Need.l0 K k0) K x3 x4 x6 x7 x10A x10n x10c x11 x12 w) ?_ ?_
                      ·
                        exact sh_sound _ _ _ _ (Eq.mp (by kernel_rfl) h)
                      · intro σ w h
                        obtain ⟨x3, e3, h⟩ := vPa_elim h
                        obtain ⟨x4, e4, h⟩ := vI_elim h
                        obtain ⟨x6, e6, h⟩ := vI_elim h
                        obtain ⟨x7, e7, h⟩ := vI_elim h
                        obtain ⟨x10A, x10n, x10c, e10, h⟩ := vS_elim h
                        obtain ⟨x11, e11, h⟩ := vI_elim h
                        obtain ⟨x12, e12, h⟩ := vI_elim h
                        refine J.sub ?_ ((((((((Sub.base _).upd e3).upd e4).upd e6).upd e7).upd e10).upd e11).upd e12)
                        clear e3 e4 e6 e7 e10 e11 e12
                        refine J_seq (fun σ w => vPa (σ 3) fun x3 => vI .i64 (σ 4) fun x4 => vI .i64 (σ 6) fun x6 => vI .i64 (σ 7) fun x7 => vS (σ 10) fun x10A x10n x10c => vI .i64 (σ 11) fun x11 => vI .i64 (σ 12) fun x12 => vB (σ 23) fun x23 => class_Need.p8 (class_Need.l0 K k0) K x3 x4 x6 x7 x10A x10n x10c x11 x12 x23 w) ?_ ?_
                        ·
                          exact sh_sound _ _ _ _ (Eq.mp (by kernel_rfl) h)
                        · intro σ w h
                          obtain ⟨x3, e3, h⟩ := vPa_elim h
                          obtain ⟨x4, e4, h⟩ := vI_elim h
                          obtain ⟨x6, e6, h⟩ := vI_elim h
                          obtain ⟨x7, e7, h⟩ := vI_elim h
                          obtain ⟨x10A, x10n, x10c, e10, h⟩ := vS_elim h
                          obtain ⟨x11, e11, h⟩ := vI_elim h
                          obtain ⟨x12, e12, h⟩ := vI_elim h
                          obtain ⟨x23, e23, h⟩ := vB_elim h
                          refine J.sub ?_ (((((((((Sub.base _).upd e3).upd e4).upd e6).upd e7).upd e10).upd e11).upd e12).upd e23)
                          clear e3 e4 e6 e7 e10 e11 e12 e23
                          exact sh_sound _ _ _ _ (Eq.mp (by kernel_rfl) h)
                  · intro σ w h
                    obtain ⟨x3, e3, h⟩ := vPa_elim h
                    obtain ⟨x4, e4, h⟩ := vI_elim h
                    obtain ⟨x10A, x10n, x10c, e10, h⟩ := vS_elim h
                    obtain ⟨x11, e11, h⟩ := vI_elim h
                    obtain ⟨x12, e12, h⟩ := vI_elim h
                    refine J.sub ?_ ((((((Sub.base _).upd e3).upd e4).upd e10).upd e11).upd e12)
                    clear e3 e4 e10 e11 e12
                    exact sh_sound _ _ _ _ (Eq.mp (by kernel_rfl) h)
        · intro σ w h
          obtain ⟨x3, e3, h⟩ := vPa_elim h
          obtain ⟨x4, e4, h⟩ := vI_elim h
          refine J.sub ?_ (((Sub.base _).upd e3).upd e4)
          clear e3 e4
          refine J_seq (fun σ w => vI .i64 (σ 4) fun x4 => class_Need.p12 K x4 w) ?_ ?_
          ·
            refine J_seq (fun σ w => vI .i64 (σ 4) fun x4 => vA (σ 34) fun le34 => vC le34 fun ue34_0 re34_0 => vI .i64 ue34_0 fun x34_0 => vC re34_0 fun ue34_1 re34_1 => vI .i64 ue34_1 fun x34_1 => vC re34_1 fun ue34_2 re34_2 => vI .i64 ue34_2 fun x34_2 => vC re34_2 fun ue34_3 re34_3 => vI .i64 ue34_3 fun x34_3 => vC re34_3 fun ue34_4 re34_4 => vI .i64 ue34_4 fun x34_4 => vC re34_4 fun ue34_5 re34_5 => vI .i64 ue34_5 fun x34_5 => vC re34_5 fun ue34_6 re34_6 => vI .i64 ue34_6 fun x34_6 => vN re34_6 <| vI .i64 (σ 35) fun x35 => class_Need.p11 K x4 x34_0 x34_1 x34_2 x34_3 x34_4 x34_5 x34_6 x35 w) ?_ ?_
            ·
              exact sh_sound _ _ _ _ (Eq.mp (by kernel_rfl) h)
            · intro σ w h
              obtain ⟨x4, e4, h⟩ := vI_elim h
              obtain ⟨le34, e34, h⟩ := vA_elim h
              obtain ⟨ue34_0, re34_0, qe34_0, h⟩ := vC_elim h
              obtain ⟨x34_0, ze34_0, h⟩ := vI_elim h
              obtain ⟨ue34_1, re34_1, qe34_1, h⟩ := vC_elim h
              obtain ⟨x34_1, ze34_1, h⟩ := vI_elim h
              obtain ⟨ue34_2, re34_2, qe34_2, h⟩ := vC_elim h
              obtain ⟨x34_2, ze34_2, h⟩ := vI_elim h
              obtain ⟨ue34_3, re34_3, qe34_3, h⟩ := vC_elim h
              obtain ⟨x34_3, ze34_3, h⟩ := vI_elim h
              obtain ⟨ue34_4, re34_4, qe34_4, h⟩ := vC_elim h
              obtain ⟨x34_4, ze34_4, h⟩ := vI_elim h
              obtain ⟨ue34_5, re34_5, qe34_5, h⟩ := vC_elim h
              obtain ⟨x34_5, ze34_5, h⟩ := vI_elim h
              obtain ⟨ue34_6, re34_6, qe34_6, h⟩ := vC_elim h
              obtain ⟨x34_6, ze34_6, h⟩ := vI_elim h
              obtain ⟨qe34, h⟩ := vN_elim h
              subst qe34; subst ze34_6; subst qe34_6; subst ze34_5; subst qe34_5; subst ze34_4; subst qe34_4; subst ze34_3; subst qe34_3; subst ze34_2; subst qe34_2; subst ze34_1; subst qe34_1; subst ze34_0; subst qe34_0
              obtain ⟨x35, e35, h⟩ := vI_elim h
              refine J.sub ?_ ((((Sub.base _).upd e4).upd e34).upd e35)
              clear e4 e34 e35
              refine J_block ?_
              refine J_loop (fun k σ w => vI .i64 (σ 4) fun x4 => vA (σ 34) fun le34 => vC le34 fun ue34_0 re34_0 => vI .i64 ue34_0 fun x34_0 => vC re34_0 fun ue34_1 re34_1 => vI .i64 ue34_1 fun x34_1 => vC re34_1 fun ue34_2 re34_2 => vI .i64 ue34_2 fun x34_2 => vC re34_2 fun ue34_3 re34_3 => vI .i64 ue34_3 fun x34_3 => vC re34_3 fun ue34_4 re34_4 => vI .i64 ue34_4 fun x34_4 => vC re34_4 fun ue34_5 re34_5 => vI .i64 ue34_5 fun x34_5 => vC re34_5 fun ue34_6 re34_6 => vI .i64 ue34_6 fun x34_6 => vN re34_6 <| vI .i64 (σ 35) fun x35 => class_Need.l1 K k x4 x34_0 x34_1 x34_2 x34_3 x34_4 x34_5 x34_6 x35 w) (Eq.mp (by kernel_rfl) h) ?_ ?_
              · intro σ w h
                obtain ⟨x4, e4, h⟩ := vI_elim h
                obtain ⟨le34, e34, h⟩ := vA_elim h
                obtain ⟨ue34_0, re34_0, qe34_0, h⟩ := vC_elim h
                obtain ⟨x34_0, ze34_0, h⟩ := vI_elim h
                obtain ⟨ue34_1, re34_1, qe34_1, h⟩ := vC_elim h
                obtain ⟨x34_1, ze34_1, h⟩ := vI_elim h
                obtain ⟨ue34_2, re34_2, qe34_2, h⟩ := vC_elim h
                obtain ⟨x34_2, ze34_2, h⟩ := vI_elim h
                obtain ⟨ue34_3, re34_3, qe34_3, h⟩ := vC_elim h
                obtain ⟨x34_3, ze34_3, h⟩ := vI_elim h
                obtain ⟨ue34_4, re34_4, qe34_4, h⟩ := vC_elim h
                obtain ⟨x34_4, ze34_4, h⟩ := vI_elim h
                obtain ⟨ue34_5, re34_5, qe34_5, h⟩ := vC_elim h
                obtain ⟨x34_5, ze34_5, h⟩ := vI_elim h
                obtain ⟨ue34_6, re34_6, qe34_6, h⟩ := vC_elim h
                obtain ⟨x34_6, ze34_6, h⟩ := vI_elim h
                obtain ⟨qe34, h⟩ := vN_elim h
                subst qe34; subst ze34_6; subst qe34_6; subst ze34_5; subst qe34_5; subst ze34_4; subst qe34_4; subst ze34_3; subst qe34_3; subst ze34_2; subst qe34_2; subst ze34_1; subst qe34_1; subst ze34_0; subst qe34_0
                obtain ⟨x35, e35, h⟩ := vI_elim h
                exact h
              · intro k1 σ w h
                obtain ⟨x4, e4, h⟩ := vI_elim h
                obtain ⟨le34, e34, h⟩ := vA_elim h
                obtain ⟨ue34_0, re34_0, qe34_0, h⟩ := vC_elim h
                obtain ⟨x34_0, ze34_0, h⟩ := vI_elim h
                obtain ⟨ue34_1, re34_1, qe34_1, h⟩ := vC_elim h
                obtain ⟨x34_1, ze34_1, h⟩ := vI_elim h
                obtain ⟨ue34_2, re34_2, qe34_2, h⟩ := vC_elim h
                obtain ⟨x34_2, ze34_2, h⟩ := vI_elim h
                obtain ⟨ue34_3, re34_3, qe34_3, h⟩ := vC_elim h
                obtain ⟨x34_3, ze34_3, h⟩ := vI_elim h
                obtain ⟨ue34_4, re34_4, qe34_4, h⟩ := vC_elim h
                obtain ⟨x34_4, ze34_4, h⟩ := vI_elim h
                obtain ⟨ue34_5, re34_5, qe34_5, h⟩ := vC_elim h
                obtain ⟨x34_5, ze34_5, h⟩ := vI_elim h
                obtain ⟨ue34_6, re34_6, qe34_6, h⟩ := vC_elim h
                obtain ⟨x34_6, ze34_6, h⟩ := vI_elim h
                obtain ⟨qe34, h⟩ := vN_elim h
                subst qe34; subst ze34_6; subst qe34_6; subst ze34_5; subst qe34_5; subst ze34_4; subst qe34_4; subst ze34_3; subst qe34_3; subst ze34_2; subst qe34_2; subst ze34_1; subst qe34_1; subst ze34_0; subst qe34_0
                obtain ⟨x35, e35, h⟩ := vI_elim h
                refine J.sub ?_ ((((Sub.base _).upd e4).upd e34).upd e35)
                clear e4 e34 e35
                exact sh_sound _ _ _ _ (Eq.mp (by kernel_rfl) h)
          · intro σ w h
            obtain ⟨x4, e4, h⟩ := vI_elim h
            refine J.sub ?_ ((Sub.base _).upd e4)
            clear e4
            exact sh_sound _ _ _ _ (Eq.mp (by kernel_rfl) h)

/-! ### hayloft/slide.open: function 25 -/
abbrev slide_open.p12 (L0 : Int → Option Addr → Nat → Nat → Int → Option Addr → Nat → Nat → Int → Int → World → Prop) (K : Value → World → Prop) (x0 : Int) (x6A : Option Addr) (x6n : Nat) (x6c : Nat) (x7 : Int) (x18A : Option Addr) (x18n : Nat) (x18c : Nat) (x19 : Int) (x20 : Int) (w : World) : Prop :=
  L0 x0 x6A x6n x6c x7 x18A x18n x18c x19 (IntKind.wrap .i64 (x20 + (1 : Int))) w
abbrev slide_open.p11 (L0 : Int → Option Addr → Nat → Nat → Int → Option Addr → Nat → Nat → Int → Int → World → Prop) (K : Value → World → Prop) (x0 : Int) (x6A : Option Addr) (x6n : Nat) (x6c : Nat) (x10 : Option Addr) (x18A : Option Addr) (x18n : Nat) (x18c : Nat) (x19 : Int) (x20 : Int) (w : World) : Prop :=
  CallsE Tryd.prog 28 #[.pointer x10] w (fun v23 w24 => ∃ (n25 : Int), v23 = .int .i64 n25 ∧ CallsE Tryd.prog 22 #[.pointer x10] w24 (fun v26 w27 => ∃ (n28 : Int), v26 = .int .i64 n28 ∧ wlet (w27.alloc (.cells #[.pointer x10] 49)) fun w29 => SemJ Tryd.prog (Builtin.append_ #[55, 55] 55 #[.slice x6A x6n x6c, .slice (some ⟨w27.heap.size, 0, none⟩) 1 1]) (fun v30 w31 => ∃ (A32 : Option Addr) (m33 : Nat) (c34 : Nat), v30 = .slice A32 m33 c34 ∧ slide_open.p12 L0 K x0 A32 m33 c34 (IntKind.wrap .i64 (n25 + n28)) x18A x18n x18c x19 x20 w31) w29))
abbrev slide_open.p10 (L0 : Int → Option Addr → Nat → Nat → Int → Option Addr → Nat → Nat → Int → Int → World → Prop) (K : Value → World → Prop) (x0 : Int) (x6A : Option Addr) (x6n : Nat) (x6c : Nat) (x10 : Option Addr) (x18A : Option Addr) (x18n : Nat) (x18c : Nat) (x19 : Int) (x20 : Int) (x45 : Bool) (w : World) : Prop :=
  condP x45 (K (.tuple #[.slice none 0 0, .bool false]) w) (slide_open.p11 L0 K x0 x6A x6n x6c x10 x18A x18n x18c x19 x20 w)
abbrev slide_open.p9 (L0 : Int → Option Addr → Nat → Nat → Int → Option Addr → Nat → Nat → Int → Int → World → Prop) (K : Value → World → Prop) (x0 : Int) (x6A : Option Addr) (x6n : Nat) (x6c : Nat) (x7 : Int) (x10 : Option Addr) (x11 : Int) (x18A : Option Addr) (x18n : Nat) (x18c : Nat) (x19 : Int) (x20 : Int) (w : World) : Prop :=
  condP (x11 != (0 : Int)) (slide_open.p10 L0 K x0 x6A x6n x6c x10 x18A x18n x18c x19 x20 true w) (CallsE Tryd.prog 28 #[.pointer x10] w (fun v35 w36 => ∃ (n37 : Int), v35 = .int .i64 n37 ∧ condP (decide (n37 < x7)) (slide_open.p10 L0 K x0 x6A x6n x6c x10 x18A x18n x18c x19 x20 true w36) (CallsE Tryd.prog 28 #[.pointer x10] w36 (fun v38 w39 => ∃ (n40 : Int), v38 = .int .i64 n40 ∧ CallsE Tryd.prog 22 #[.pointer x10] w39 (fun v41 w42 => ∃ (n43 : Int), v41 = .int .i64 n43 ∧ slide_open.p10 L0 K x0 x6A x6n x6c x10 x18A x18n x18c x19 x20 (decide (x0 < (IntKind.wrap .i64 (n40 + n43)))) w42)))))
abbrev slide_open.p8 (L0 : Int → Option Addr → Nat → Nat → Int → Option Addr → Nat → Nat → Int → Int → World → Prop) (K : Value → World → Prop) (x0 : Int) (x6A : Option Addr) (x6n : Nat) (x6c : Nat) (x7 : Int) (x9 : Addr) (x18A : Option Addr) (x18n : Nat) (x18c : Nat) (x19 : Int) (x20 : Int) (w : World) : Prop :=
  ∃ (n13 : Int), w.cell? x9 = some (.int .i64 n13) ∧ ∃ (n14 : Int), w.cell? (x9.add 1) = some (.int .i64 n14) ∧ ∃ (n15 : Int), w.cell? (x9.add 2) = some (.int .i64 n15) ∧ ∃ (A16 : Option Addr) (m17 : Nat) (c18 : Nat), w.cell? (x9.add 3) = some (.slice A16 m17 c18) ∧ CallsE Tryd.prog 20 #[.agg #[.int .i64 n13, .int .i64 n14, .int .i64 n15, .slice A16 m17 c18]] w (fun v19 w20 => ∃ (p21 : Option Addr) (n22 : Int), v19 = .tuple #[.pointer p21, .int .i64 n22] ∧ slide_open.p9 L0 K x0 x6A x6n x6c x7 p21 n22 x18A x18n x18c x19 x20 w20)
abbrev slide_open.p7 (L0 : Int → Option Addr → Nat → Nat → Int → Option Addr → Nat → Nat → Int → Int → World → Prop) (K : Value → World → Prop) (x0 : Int) (x6A : Option Addr) (x6n : Nat) (x6c : Nat) (x7 : Int) (x18A : Option Addr) (x18n : Nat) (x18c : Nat) (x19 : Int) (x20 : Int) (w : World) : Prop :=
  (0 ≤ x20 ∧ x20 < ((x18n : Nat) : Int)) ∧ ∃ (a1 : Addr), x18A = some a1 ∧ ∃ (n2 : Int), w.cell? (a1.add (x20.toNat * 4)) = some (.int .i64 n2) ∧ ∃ (n3 : Int), w.cell? ((a1.add (x20.toNat * 4)).add 1) = some (.int .i64 n3) ∧ ∃ (n4 : Int), w.cell? ((a1.add (x20.toNat * 4)).add 2) = some (.int .i64 n4) ∧ ∃ (A5 : Option Addr) (m6 : Nat) (c7 : Nat), w.cell? ((a1.add (x20.toNat * 4)).add 3) = some (.slice A5 m6 c7) ∧ wlet (w.alloc (.cells #[.int .i64 0, .int .i64 0, .int .i64 0, .slice none 0 0] 46)) fun w8 => canStore w8 (⟨w.heap.size, 0, none⟩) ∧ wlet (w8.setCell (⟨w.heap.size, 0, none⟩) (.int .i64 n2)) fun w9 => canStore w9 (⟨w.heap.size, 1, none⟩) ∧ wlet (w9.setCell (⟨w.heap.size, 1, none⟩) (.int .i64 n3)) fun w10 => canStore w10 (⟨w.heap.size, 2, none⟩) ∧ wlet (w10.setCell (⟨w.heap.size, 2, none⟩) (.int .i64 n4)) fun w11 => canStore w11 (⟨w.heap.size, 3, none⟩) ∧ wlet (w11.setCell (⟨w.heap.size, 3, none⟩) (.slice A5 m6 c7)) fun w12 => slide_open.p8 L0 K x0 x6A x6n x6c x7 (⟨w.heap.size, 0, none⟩) x18A x18n x18c x19 x20 w12
abbrev slide_open.p13 (K : Value → World → Prop) (x6A : Option Addr) (x6n : Nat) (x6c : Nat) (w : World) : Prop :=
  K (.tuple #[.slice x6A x6n x6c, .bool true]) w
abbrev slide_open.p6 (L0 : Int → Option Addr → Nat → Nat → Int → Option Addr → Nat → Nat → Int → Int → World → Prop) (K : Value → World → Prop) (x0 : Int) (x6A : Option Addr) (x6n : Nat) (x6c : Nat) (x7 : Int) (x18A : Option Addr) (x18n : Nat) (x18c : Nat) (x19 : Int) (x20 : Int) (x21 : Bool) (w : World) : Prop :=
  condP x21 (slide_open.p7 L0 K x0 x6A x6n x6c x7 x18A x18n x18c x19 x20 w) (slide_open.p13 K x6A x6n x6c w)
abbrev slide_open.b0 (L0 : Int → Option Addr → Nat → Nat → Int → Option Addr → Nat → Nat → Int → Int → World → Prop) (K : Value → World → Prop) (x0 : Int) (x6A : Option Addr) (x6n : Nat) (x6c : Nat) (x7 : Int) (x18A : Option Addr) (x18n : Nat) (x18c : Nat) (x19 : Int) (x20 : Int) (w : World) : Prop :=
  slide_open.p6 L0 K x0 x6A x6n x6c x7 x18A x18n x18c x19 x20 (decide (x20 < x19)) w
def slide_open.l0 (K : Value → World → Prop) (k : Nat) : Int → Option Addr → Nat → Nat → Int → Option Addr → Nat → Nat → Int → Int → World → Prop :=
  Nat.rec (motive := fun _ => Int → Option Addr → Nat → Nat → Int → Option Addr → Nat → Nat → Int → Int → World → Prop) (fun _ _ _ _ _ _ _ _ _ _ _ => False) (fun _ ih => slide_open.b0 ih K) k
theorem slide_open.l0_succ (K : Value → World → Prop) (k : Nat) (x0 : Int) (x6A : Option Addr) (x6n : Nat) (x6c : Nat) (x7 : Int) (x18A : Option Addr) (x18n : Nat) (x18c : Nat) (x19 : Int) (x20 : Int) (w : World) : slide_open.l0 K (k + 1) x0 x6A x6n x6c x7 x18A x18n x18c x19 x20 w = slide_open.b0 (slide_open.l0 K k) K x0 x6A x6n x6c x7 x18A x18n x18c x19 x20 w := rfl
abbrev slide_open.p5 (K : Value → World → Prop) (x0 : Int) (x6A : Option Addr) (x6n : Nat) (x6c : Nat) (x7 : Int) (x18A : Option Addr) (x18n : Nat) (x18c : Nat) (x19 : Int) (x20 : Int) (w : World) : Prop :=
  ∃ k, slide_open.l0 K k x0 x6A x6n x6c x7 x18A x18n x18c x19 x20 w
abbrev slide_open.p4 (K : Value → World → Prop) (x0 : Int) (x1A : Option Addr) (x1n : Nat) (x1c : Nat) (x6A : Option Addr) (x6n : Nat) (x6c : Nat) (x7 : Int) (w : World) : Prop :=
  slide_open.p5 K x0 x6A x6n x6c x7 x1A x1n x1c ((x1n : Nat) : Int) 0 w
abbrev slide_open.p3 (K : Value → World → Prop) (x0 : Int) (x1A : Option Addr) (x1n : Nat) (x1c : Nat) (x6A : Option Addr) (x6n : Nat) (x6c : Nat) (w : World) : Prop :=
  slide_open.p4 K x0 x1A x1n x1c x6A x6n x6c 0 w
abbrev slide_open.p2 (K : Value → World → Prop) (x0 : Int) (x1A : Option Addr) (x1n : Nat) (x1c : Nat) (w : World) : Prop :=
  slide_open.p3 K x0 x1A x1n x1c none 0 0 w
abbrev slide_open.p1 (K : Value → World → Prop) (x0 : Int) (x1A : Option Addr) (x1n : Nat) (x1c : Nat) (x17 : Bool) (w : World) : Prop :=
  condP x17 (K (.tuple #[.slice none 0 0, .bool false]) w) (slide_open.p2 K x0 x1A x1n x1c w)
abbrev slide_open.p0 (K : Value → World → Prop) (x0 : Int) (x1A : Option Addr) (x1n : Nat) (x1c : Nat) (w : World) : Prop :=
  condP (decide (x0 < (1 : Int))) (slide_open.p1 K x0 x1A x1n x1c true w) (slide_open.p1 K x0 x1A x1n x1c (decide ((4096 : Int) < x0)) w)
abbrev slide_open.F (q0 : Int) (q1A : Option Addr) (q1n : Nat) (q1c : Nat) (K : Value → World → Prop) (w : World) : Prop :=
  slide_open.p0 K q0 q1A q1n q1c w
theorem slide_open.ok {q0 : Int} {q1A : Option Addr} {q1n : Nat} {q1c : Nat} {K : Value → World → Prop} {w : World} (h : slide_open.F q0 q1A q1n q1c K w) :
    CallsE Tryd.prog 25 #[.int .i64 q0, .slice q1A q1n q1c] w K := by
  refine calls_of_J (n := 57) (rs := [.tmp 4, .tmp 5]) Tryd.func25 rfl rfl rfl rfl ?_
  refine J_seq (fun σ w => vI .i64 (σ 0) fun x0 => vS (σ 1) fun x1A x1n x1c => slide_open.p0 K x0 x1A x1n x1c w) ?_ ?_
  ·
    exact sh_sound _ _ _ _ (Eq.mp (by kernel_rfl) h)
  · intro σ w h
    obtain ⟨x0, e0, h⟩ := vI_elim h
    obtain ⟨x1A, x1n, x1c, e1, h⟩ := vS_elim h
    refine J.sub ?_ (((Sub.base _).upd e0).upd e1)
    clear e0 e1
    refine J_seq (fun σ w => vI .i64 (σ 0) fun x0 => vS (σ 1) fun x1A x1n x1c => slide_open.p2 K x0 x1A x1n x1c w) ?_ ?_
    ·
      refine J_seq (fun σ w => vI .i64 (σ 0) fun x0 => vS (σ 1) fun x1A x1n x1c => vB (σ 17) fun x17 => slide_open.p1 K x0 x1A x1n x1c x17 w) ?_ ?_
      ·
        exact sh_sound _ _ _ _ (Eq.mp (by kernel_rfl) h)
      · intro σ w h
        obtain ⟨x0, e0, h⟩ := vI_elim h
        obtain ⟨x1A, x1n, x1c, e1, h⟩ := vS_elim h
        obtain ⟨x17, e17, h⟩ := vB_elim h
        refine J.sub ?_ ((((Sub.base _).upd e0).upd e1).upd e17)
        clear e0 e1 e17
        exact sh_sound _ _ _ _ (Eq.mp (by kernel_rfl) h)
    · intro σ w h
      obtain ⟨x0, e0, h⟩ := vI_elim h
      obtain ⟨x1A, x1n, x1c, e1, h⟩ := vS_elim h
      refine J.sub ?_ (((Sub.base _).upd e0).upd e1)
      clear e0 e1
      refine J_seq (fun σ w => vI .i64 (σ 0) fun x0 => vS (σ 1) fun x1A x1n x1c => vS (σ 6) fun x6A x6n x6c => slide_open.p3 K x0 x1A x1n x1c x6A x6n x6c w) ?_ ?_
      ·
        exact sh_sound _ _ _ _ (Eq.mp (by kernel_rfl) h)
      · intro σ w h
        obtain ⟨x0, e0, h⟩ := vI_elim h
        obtain ⟨x1A, x1n, x1c, e1, h⟩ := vS_elim h
        obtain ⟨x6A, x6n, x6c, e6, h⟩ := vS_elim h
        refine J.sub ?_ ((((Sub.base _).upd e0).upd e1).upd e6)
        clear e0 e1 e6
        refine J_seq (fun σ w => vI .i64 (σ 0) fun x0 => vS (σ 1) fun x1A x1n x1c => vS (σ 6) fun x6A x6n x6c => vI .i64 (σ 7) fun x7 => slide_open.p4 K x0 x1A x1n x1c x6A x6n x6c x7 w) ?_ ?_
        ·
          exact sh_sound _ _ _ _ (Eq.mp (by kernel_rfl) h)
        · intro σ w h
          obtain ⟨x0, e0, h⟩ := vI_elim h
          obtain ⟨x1A, x1n, x1c, e1, h⟩ := vS_elim h
          obtain ⟨x6A, x6n, x6c, e6, h⟩ := vS_elim h
          obtain ⟨x7, e7, h⟩ := vI_elim h
          refine J.sub ?_ (((((Sub.base _).upd e0).upd e1).upd e6).upd e7)
          clear e0 e1 e6 e7
          refine J_seq (fun σ w => vS (σ 6) fun x6A x6n x6c => slide_open.p13 K x6A x6n x6c w) ?_ ?_
          ·
            refine J_seq (fun σ w => vI .i64 (σ 0) fun x0 => vS (σ 6) fun x6A x6n x6c => vI .i64 (σ 7) fun x7 => vS (σ 18) fun x18A x18n x18c => vI .i64 (σ 19) fun x19 => vI .i64 (σ 20) fun x20 => slide_open.p5 K x0 x6A x6n x6c x7 x18A x18n x18c x19 x20 w) ?_ ?_
            ·
              exact sh_sound _ _ _ _ (Eq.mp (by kernel_rfl) h)
            · intro σ w h
              obtain ⟨x0, e0, h⟩ := vI_elim h
              obtain ⟨x6A, x6n, x6c, e6, h⟩ := vS_elim h
              obtain ⟨x7, e7, h⟩ := vI_elim h
              obtain ⟨x18A, x18n, x18c, e18, h⟩ := vS_elim h
              obtain ⟨x19, e19, h⟩ := vI_elim h
              obtain ⟨x20, e20, h⟩ := vI_elim h
              refine J.sub ?_ (((((((Sub.base _).upd e0).upd e6).upd e7).upd e18).upd e19).upd e20)
              clear e0 e6 e7 e18 e19 e20
              refine J_block ?_
              refine J_loop (fun k σ w => vI .i64 (σ 0) fun x0 => vS (σ 6) fun x6A x6n x6c => vI .i64 (σ 7) fun x7 => vS (σ 18) fun x18A x18n x18c => vI .i64 (σ 19) fun x19 => vI .i64 (σ 20) fun x20 => slide_open.l0 K k x0 x6A x6n x6c x7 x18A x18n x18c x19 x20 w) (Eq.mp (by kernel_rfl) h) ?_ ?_
              · intro σ w h
                obtain ⟨x0, e0, h⟩ := vI_elim h
                obtain ⟨x6A, x6n, x6c, e6, h⟩ := vS_elim h
                obtain ⟨x7, e7, h⟩ := vI_elim h
                obtain ⟨x18A, x18n, x18c, e18, h⟩ := vS_elim h
                obtain ⟨x19, e19, h⟩ := vI_elim h
                obtain ⟨x20, e20, h⟩ := vI_elim h
                exact h
              · intro k0 σ w h
                obtain ⟨x0, e0, h⟩ := vI_elim h
                obtain ⟨x6A, x6n, x6c, e6, h⟩ := vS_elim h
                obtain ⟨x7, e7, h⟩ := vI_elim h
                obtain ⟨x18A, x18n, x18c, e18, h⟩ := vS_elim h
                obtain ⟨x19, e19, h⟩ := vI_elim h
                obtain ⟨x20, e20, h⟩ := vI_elim h
                refine J.sub ?_ (((((((Sub.base _).upd e0).upd e6).upd e7).upd e18).upd e19).upd e20)
                clear e0 e6 e7 e18 e19 e20
                refine J_seq (fun σ w => vI .i64 (σ 0) fun x0 => vS (σ 6) fun x6A x6n x6c => vI .i64 (σ 7) fun x7 => vS (σ 18) fun x18A x18n x18c => vI .i64 (σ 19) fun x19 => vI .i64 (σ 20) fun x20 => vB (σ 21) fun x21 => slide_open.p6 (slide_open.l0 K k0) K x0 x6A x6n x6c x7 x18A x18n x18c x19 x20 x21 w) ?_ ?_
                ·
                  exact sh_sound _ _ _ _ (Eq.mp (by kernel_rfl) h)
                · intro σ w h
                  obtain ⟨x0, e0, h⟩ := vI_elim h
                  obtain ⟨x6A, x6n, x6c, e6, h⟩ := vS_elim h
                  obtain ⟨x7, e7, h⟩ := vI_elim h
                  obtain ⟨x18A, x18n, x18c, e18, h⟩ := vS_elim h
                  obtain ⟨x19, e19, h⟩ := vI_elim h
                  obtain ⟨x20, e20, h⟩ := vI_elim h
                  obtain ⟨x21, e21, h⟩ := vB_elim h
                  refine J.sub ?_ ((((((((Sub.base _).upd e0).upd e6).upd e7).upd e18).upd e19).upd e20).upd e21)
                  clear e0 e6 e7 e18 e19 e20 e21
                  refine J_seq (fun σ w => vI .i64 (σ 0) fun x0 => vS (σ 6) fun x6A x6n x6c => vI .i64 (σ 7) fun x7 => vS (σ 18) fun x18A x18n x18c => vI .i64 (σ 19) fun x19 => vI .i64 (σ 20) fun x20 => slide_open.p7 (slide_open.l0 K k0) K x0 x6A x6n x6c x7 x18A x18n x18c x19 x20 w) ?_ ?_
                  ·
                    exact sh_sound _ _ _ _ (Eq.mp (by kernel_rfl) h)
                  · intro σ w h
                    obtain ⟨x0, e0, h⟩ := vI_elim h
                    obtain ⟨x6A, x6n, x6c, e6, h⟩ := vS_elim h
                    obtain ⟨x7, e7, h⟩ := vI_elim h
                    obtain ⟨x18A, x18n, x18c, e18, h⟩ := vS_elim h
                    obtain ⟨x19, e19, h⟩ := vI_elim h
                    obtain ⟨x20, e20, h⟩ := vI_elim h
                    refine J.sub ?_ (((((((Sub.base _).upd e0).upd e6).upd e7).upd e18).upd e19).upd e20)
                    clear e0 e6 e7 e18 e19 e20
                    refine J_seq (fun σ w => vI .i64 (σ 0) fun x0 => vS (σ 6) fun x6A x6n x6c => vI .i64 (σ 7) fun x7 => vS (σ 18) fun x18A x18n x18c => vI .i64 (σ 19) fun x19 => vI .i64 (σ 20) fun x20 => slide_open.p12 (slide_open.l0 K k0) K x0 x6A x6n x6c x7 x18A x18n x18c x19 x20 w) ?_ ?_
                    ·
                      refine J_block ?_
                      refine J_seq (fun σ w => vI .i64 (σ 0) fun x0 => vS (σ 6) fun x6A x6n x6c => vI .i64 (σ 7) fun x7 => vPa (σ 9) fun x9 => vS (σ 18) fun x18A x18n x18c => vI .i64 (σ 19) fun x19 => vI .i64 (σ 20) fun x20 => slide_open.p8 (slide_open.l0 K k0) K x0 x6A x6n x6c x7 x9 x18A x18n x18c x19 x20 w) ?_ ?_
                      ·
                        exact sh_sound _ _ _ _ (Eq.mp (by kernel_rfl) h)
                      · intro σ w h
                        obtain ⟨x0, e0, h⟩ := vI_elim h
                        obtain ⟨x6A, x6n, x6c, e6, h⟩ := vS_elim h
                        obtain ⟨x7, e7, h⟩ := vI_elim h
                        obtain ⟨x9, e9, h⟩ := vPa_elim h
                        obtain ⟨x18A, x18n, x18c, e18, h⟩ := vS_elim h
                        obtain ⟨x19, e19, h⟩ := vI_elim h
                        obtain ⟨x20, e20, h⟩ := vI_elim h
                        refine J.sub ?_ ((((((((Sub.base _).upd e0).upd e6).upd e7).upd e9).upd e18).upd e19).upd e20)
                        clear e0 e6 e7 e9 e18 e19 e20
                        refine J_seq (fun σ w => vI .i64 (σ 0) fun x0 => vS (σ 6) fun x6A x6n x6c => vI .i64 (σ 7) fun x7 => vP (σ 10) fun x10 => vI .i64 (σ 11) fun x11 => vS (σ 18) fun x18A x18n x18c => vI .i64 (σ 19) fun x19 => vI .i64 (σ 20) fun x20 => slide_open.p9 (slide_open.l0 K k0) K x0 x6A x6n x6c x7 x10 x11 x18A x18n x18c x19 x20 w) ?_ ?_
                        ·
                          exact sh_sound _ _ _ _ (Eq.mp (by kernel_rfl) h)
                        · intro σ w h
                          obtain ⟨x0, e0, h⟩ := vI_elim h
                          obtain ⟨x6A, x6n, x6c, e6, h⟩ := vS_elim h
                          obtain ⟨x7, e7, h⟩ := vI_elim h
                          obtain ⟨x10, e10, h⟩ := vP_elim h
                          obtain ⟨x11, e11, h⟩ := vI_elim h
                          obtain ⟨x18A, x18n, x18c, e18, h⟩ := vS_elim h
                          obtain ⟨x19, e19, h⟩ := vI_elim h
                          obtain ⟨x20, e20, h⟩ := vI_elim h
                          refine J.sub ?_ (((((((((Sub.base _).upd e0).upd e6).upd e7).upd e10).upd e11).upd e18).upd e19).upd e20)
                          clear e0 e6 e7 e10 e11 e18 e19 e20
                          refine J_seq (fun σ w => vI .i64 (σ 0) fun x0 => vS (σ 6) fun x6A x6n x6c => vP (σ 10) fun x10 => vS (σ 18) fun x18A x18n x18c => vI .i64 (σ 19) fun x19 => vI .i64 (σ 20) fun x20 => slide_open.p11 (slide_open.l0 K k0) K x0 x6A x6n x6c x10 x18A x18n x18c x19 x20 w) ?_ ?_
                          ·
                            refine J_seq (fun σ w => vI .i64 (σ 0) fun x0 => vS (σ 6) fun x6A x6n x6c => vP (σ 10) fun x10 => vS (σ 18) fun x18A x18n x18c => vI .i64 (σ 19) fun x19 => vI .i64 (σ 20) fun x20 => vB (σ 45) fun x45 => slide_open.p10 (slide_open.l0 K k0) K x0 x6A x6n x6c x10 x18A x18n x18c x19 x20 x45 w) ?_ ?_
                            ·
                              exact sh_sound _ _ _ _ (Eq.mp (by kernel_rfl) h)
                            · intro σ w h
                              obtain ⟨x0, e0, h⟩ := vI_elim h
                              obtain ⟨x6A, x6n, x6c, e6, h⟩ := vS_elim h
                              obtain ⟨x10, e10, h⟩ := vP_elim h
                              obtain ⟨x18A, x18n, x18c, e18, h⟩ := vS_elim h
                              obtain ⟨x19, e19, h⟩ := vI_elim h
                              obtain ⟨x20, e20, h⟩ := vI_elim h
                              obtain ⟨x45, e45, h⟩ := vB_elim h
                              refine J.sub ?_ ((((((((Sub.base _).upd e0).upd e6).upd e10).upd e18).upd e19).upd e20).upd e45)
                              clear e0 e6 e10 e18 e19 e20 e45
                              exact sh_sound _ _ _ _ (Eq.mp (by kernel_rfl) h)
                          · intro σ w h
                            obtain ⟨x0, e0, h⟩ := vI_elim h
                            obtain ⟨x6A, x6n, x6c, e6, h⟩ := vS_elim h
                            obtain ⟨x10, e10, h⟩ := vP_elim h
                            obtain ⟨x18A, x18n, x18c, e18, h⟩ := vS_elim h
                            obtain ⟨x19, e19, h⟩ := vI_elim h
                            obtain ⟨x20, e20, h⟩ := vI_elim h
                            refine J.sub ?_ (((((((Sub.base _).upd e0).upd e6).upd e10).upd e18).upd e19).upd e20)
                            clear e0 e6 e10 e18 e19 e20
                            exact sh_sound _ _ _ _ (Eq.mp (by kernel_rfl) h)
                    · intro σ w h
                      obtain ⟨x0, e0, h⟩ := vI_elim h
                      obtain ⟨x6A, x6n, x6c, e6, h⟩ := vS_elim h
                      obtain ⟨x7, e7, h⟩ := vI_elim h
                      obtain ⟨x18A, x18n, x18c, e18, h⟩ := vS_elim h
                      obtain ⟨x19, e19, h⟩ := vI_elim h
                      obtain ⟨x20, e20, h⟩ := vI_elim h
                      refine J.sub ?_ (((((((Sub.base _).upd e0).upd e6).upd e7).upd e18).upd e19).upd e20)
                      clear e0 e6 e7 e18 e19 e20
                      exact sh_sound _ _ _ _ (Eq.mp (by kernel_rfl) h)
          · intro σ w h
            obtain ⟨x6A, x6n, x6c, e6, h⟩ := vS_elim h
            refine J.sub ?_ ((Sub.base _).upd e6)
            clear e6
            exact sh_sound _ _ _ _ (Eq.mp (by kernel_rfl) h)

/-! ### hayloft/slide.Plan$1: function 26 -/
abbrev slide_Plan_1.F (q0 : Int) (q1 : Int) (q2 : Int) (f0 : Addr) (K : Value → World → Prop) (w : World) : Prop :=
  ∃ (A1 : Option Addr) (m2 : Nat) (c3 : Nat), w.cell? f0 = some (.slice A1 m2 c3) ∧ wlet (w.alloc (.cells #[.int .i64 q0, .int .i64 q1, .int .i64 q2] 25)) fun w4 => SemJ Tryd.prog (Builtin.append_ #[22, 22] 22 #[.slice A1 m2 c3, .slice (some ⟨w.heap.size, 0, none⟩) 1 1]) (fun v5 w6 => ∃ (A7 : Option Addr) (m8 : Nat) (c9 : Nat), v5 = .slice A7 m8 c9 ∧ canStore w6 f0 ∧ wlet (w6.setCell f0 (.slice A7 m8 c9)) fun w10 => K (.tuple #[]) w10) w4
theorem slide_Plan_1.ok {q0 : Int} {q1 : Int} {q2 : Int} {f0 : Addr} {K : Value → World → Prop} {w : World} (h : slide_Plan_1.F q0 q1 q2 f0 K w) :
    CallsE Tryd.prog 26 #[.int .i64 q0, .int .i64 q1, .int .i64 q2, .pointer (some f0)] w K := by
  refine calls_of_J (n := 14) (rs := []) Tryd.func26 rfl rfl rfl rfl ?_
  exact sh_sound _ _ _ _ (Eq.mp (by kernel_rfl) h)

/-! ### hayloft/slide.pack: function 27 -/
abbrev slide_pack.p4 (L0 : Int → FuncId → Array Value → Option Addr → Nat → Nat → Option Addr → Nat → Nat → Int → Int → World → Prop) (K : Value → World → Prop) (x1 : Int) (x2g : FuncId) (x2c : Array Value) (x6A : Option Addr) (x6n : Nat) (x6c : Nat) (x18A : Option Addr) (x18n : Nat) (x18c : Nat) (x19 : Int) (x20 : Int) (w : World) : Prop :=
  L0 x1 x2g x2c x6A x6n x6c x18A x18n x18c x19 (IntKind.wrap .i64 (x20 + (1 : Int))) w
abbrev slide_pack.p3 (L0 : Int → FuncId → Array Value → Option Addr → Nat → Nat → Option Addr → Nat → Nat → Int → Int → World → Prop) (K : Value → World → Prop) (x1 : Int) (x2g : FuncId) (x2c : Array Value) (x6A : Option Addr) (x6n : Nat) (x6c : Nat) (x18A : Option Addr) (x18n : Nat) (x18c : Nat) (x19 : Int) (x20 : Int) (w : World) : Prop :=
  (0 ≤ x20 ∧ x20 < ((x18n : Nat) : Int)) ∧ ∃ (a1 : Addr), x18A = some a1 ∧ ∃ (p2 : Option Addr), w.cell? (a1.add x20.toNat) = some (.pointer p2) ∧ CallsE Tryd.prog 44 #[.pointer p2] w (fun v3 w4 => ∃ (n5 : Int), v3 = .int .i64 n5 ∧ condP (n5 == x1) (wlet (w4.alloc (.cells #[.pointer p2] 49)) fun w6 => SemJ Tryd.prog (Builtin.append_ #[55, 55] 55 #[.slice x6A x6n x6c, .slice (some ⟨w4.heap.size, 0, none⟩) 1 1]) (fun v7 w8 => ∃ (A9 : Option Addr) (m10 : Nat) (c11 : Nat), v7 = .slice A9 m10 c11 ∧ slide_pack.p4 L0 K x1 x2g x2c A9 m10 c11 x18A x18n x18c x19 x20 w8) w6) (slide_pack.p4 L0 K x1 x2g x2c x6A x6n x6c x18A x18n x18c x19 x20 w4))
abbrev slide_pack.p16 (L2 : FuncId → Array Value → Option Addr → Nat → Nat → Int → Int → Option Addr → Option Addr → Nat → Nat → Int → Int → Int → Int → World → Prop) (L1 : FuncId → Array Value → Option Addr → Nat → Nat → Int → Int → Option Addr → Nat → Nat → Int → Int → World → Prop) (K : Value → World → Prop) (x2g : FuncId) (x2c : Array Value) (x6A : Option Addr) (x6n : Nat) (x6c : Nat) (x9 : Int) (x10 : Int) (x12 : Option Addr) (x33A : Option Addr) (x33n : Nat) (x33c : Nat) (x34 : Int) (x35 : Int) (x40 : Int) (x41 : Int) (w : World) : Prop :=
  L2 x2g x2c x6A x6n x6c x9 x10 x12 x33A x33n x33c x34 x35 x40 (IntKind.wrap .i64 (x41 + (1 : Int))) w
abbrev slide_pack.p22 (L2 : FuncId → Array Value → Option Addr → Nat → Nat → Int → Int → Option Addr → Option Addr → Nat → Nat → Int → Int → Int → Int → World → Prop) (L1 : FuncId → Array Value → Option Addr → Nat → Nat → Int → Int → Option Addr → Nat → Nat → Int → Int → World → Prop) (K : Value → World → Prop) (x2g : FuncId) (x2c : Array Value) (x6A : Option Addr) (x6n : Nat) (x6c : Nat) (x9 : Int) (x10 : Int) (x12 : Option Addr) (x33A : Option Addr) (x33n : Nat) (x33c : Nat) (x34 : Int) (x35 : Int) (x40 : Int) (x41 : Int) (w : World) : Prop :=
  CallsE Tryd.prog 23 #[.pointer x12] w (fun v44 w45 => ∃ (n46 : Int), v44 = .int .i64 n46 ∧ condP ((IntKind.wrap .i64 (x10 + (1 : Int))) == n46) (slide_pack.p16 L2 L1 K x2g x2c x6A x6n x6c (IntKind.wrap .i64 (x9 + (1 : Int))) 0 x12 x33A x33n x33c x34 x35 x40 x41 w45) (slide_pack.p16 L2 L1 K x2g x2c x6A x6n x6c x9 (IntKind.wrap .i64 (x10 + (1 : Int))) x12 x33A x33n x33c x34 x35 x40 x41 w45))
abbrev slide_pack.p21 (L2 : FuncId → Array Value → Option Addr → Nat → Nat → Int → Int → Option Addr → Option Addr → Nat → Nat → Int → Int → Int → Int → World → Prop) (L1 : FuncId → Array Value → Option Addr → Nat → Nat → Int → Int → Option Addr → Nat → Nat → Int → Int → World → Prop) (K : Value → World → Prop) (x2g : FuncId) (x2c : Array Value) (x6A : Option Addr) (x6n : Nat) (x6c : Nat) (x9 : Int) (x10 : Int) (x12 : Option Addr) (x14 : Int) (x16 : Int) (x33A : Option Addr) (x33n : Nat) (x33c : Nat) (x34 : Int) (x35 : Int) (x40 : Int) (x41 : Int) (w : World) : Prop :=
  condP (x14 != x16) (CallsE Tryd.prog 36 #[.pointer x12] w (fun v39 w40 => ∃ (n41 : Int), v39 = .int .i64 n41 ∧ callG Tryd.prog x2g (CallsE Tryd.prog x2g ⟨[.int .i64 x14, .int .i64 x16, .int .i64 n41] ++ x2c.toList⟩ w40 (fun v42 w43 => v42 = .tuple #[] ∧ slide_pack.p22 L2 L1 K x2g x2c x6A x6n x6c x9 x10 x12 x33A x33n x33c x34 x35 x40 x41 w43)))) (slide_pack.p22 L2 L1 K x2g x2c x6A x6n x6c x9 x10 x12 x33A x33n x33c x34 x35 x40 x41 w)
abbrev slide_pack.p20 (L2 : FuncId → Array Value → Option Addr → Nat → Nat → Int → Int → Option Addr → Option Addr → Nat → Nat → Int → Int → Int → Int → World → Prop) (L1 : FuncId → Array Value → Option Addr → Nat → Nat → Int → Int → Option Addr → Nat → Nat → Int → Int → World → Prop) (K : Value → World → Prop) (x2g : FuncId) (x2c : Array Value) (x6A : Option Addr) (x6n : Nat) (x6c : Nat) (x9 : Int) (x10 : Int) (x12 : Option Addr) (x14 : Int) (x16 : Int) (x33A : Option Addr) (x33n : Nat) (x33c : Nat) (x34 : Int) (x35 : Int) (x40 : Int) (x41 : Int) (w : World) : Prop :=
  (0 ≤ x9 ∧ x9 < ((x6n : Nat) : Int)) ∧ ∃ (a33 : Addr), x6A = some a33 ∧ ∃ (p34 : Option Addr), w.cell? (a33.add x9.toNat) = some (.pointer p34) ∧ CallsE Tryd.prog 47 #[.pointer p34] w (fun v35 w36 => ∃ (n37 : Int) (b38 : Bool), v35 = .tuple #[.int .i64 n37, .bool b38] ∧ slide_pack.p21 L2 L1 K x2g x2c x6A x6n x6c x9 x10 x12 x14 x16 x33A x33n x33c x34 x35 x40 x41 w36)
abbrev slide_pack.p19 (L2 : FuncId → Array Value → Option Addr → Nat → Nat → Int → Int → Option Addr → Option Addr → Nat → Nat → Int → Int → Int → Int → World → Prop) (L1 : FuncId → Array Value → Option Addr → Nat → Nat → Int → Int → Option Addr → Nat → Nat → Int → Int → World → Prop) (K : Value → World → Prop) (x2g : FuncId) (x2c : Array Value) (x6A : Option Addr) (x6n : Nat) (x6c : Nat) (x9 : Int) (x10 : Int) (x12 : Option Addr) (x14 : Int) (x33A : Option Addr) (x33n : Nat) (x33c : Nat) (x34 : Int) (x35 : Int) (x40 : Int) (x41 : Int) (w : World) : Prop :=
  (0 ≤ x9 ∧ x9 < ((x6n : Nat) : Int)) ∧ ∃ (a27 : Addr), x6A = some a27 ∧ ∃ (p28 : Option Addr), w.cell? (a27.add x9.toNat) = some (.pointer p28) ∧ CallsE Tryd.prog 35 #[.pointer p28, .int .i64 x10] w (fun v29 w30 => ∃ (n31 : Int) (b32 : Bool), v29 = .tuple #[.int .i64 n31, .bool b32] ∧ slide_pack.p20 L2 L1 K x2g x2c x6A x6n x6c x9 x10 x12 x14 n31 x33A x33n x33c x34 x35 x40 x41 w30)
abbrev slide_pack.p18 (L2 : FuncId → Array Value → Option Addr → Nat → Nat → Int → Int → Option Addr → Option Addr → Nat → Nat → Int → Int → Int → Int → World → Prop) (L1 : FuncId → Array Value → Option Addr → Nat → Nat → Int → Int → Option Addr → Nat → Nat → Int → Int → World → Prop) (K : Value → World → Prop) (x2g : FuncId) (x2c : Array Value) (x6A : Option Addr) (x6n : Nat) (x6c : Nat) (x9 : Int) (x10 : Int) (x12 : Option Addr) (x13 : Int) (x14 : Int) (x33A : Option Addr) (x33n : Nat) (x33c : Nat) (x34 : Int) (x35 : Int) (x40 : Int) (x41 : Int) (w : World) : Prop :=
  CallsE Tryd.prog 46 #[.pointer x12, .int .i64 x13] w (fun v24 w25 => ∃ (b26 : Bool), v24 = .bool b26 ∧ slide_pack.p19 L2 L1 K x2g x2c x6A x6n x6c x9 x10 x12 x14 x33A x33n x33c x34 x35 x40 x41 w25)
abbrev slide_pack.p17 (L2 : FuncId → Array Value → Option Addr → Nat → Nat → Int → Int → Option Addr → Option Addr → Nat → Nat → Int → Int → Int → Int → World → Prop) (L1 : FuncId → Array Value → Option Addr → Nat → Nat → Int → Int → Option Addr → Nat → Nat → Int → Int → World → Prop) (K : Value → World → Prop) (x2g : FuncId) (x2c : Array Value) (x6A : Option Addr) (x6n : Nat) (x6c : Nat) (x9 : Int) (x10 : Int) (x12 : Option Addr) (x13 : Int) (x33A : Option Addr) (x33n : Nat) (x33c : Nat) (x34 : Int) (x35 : Int) (x40 : Int) (x41 : Int) (w : World) : Prop :=
  CallsE Tryd.prog 35 #[.pointer x12, .int .i64 x13] w (fun v20 w21 => ∃ (n22 : Int) (b23 : Bool), v20 = .tuple #[.int .i64 n22, .bool b23] ∧ slide_pack.p18 L2 L1 K x2g x2c x6A x6n x6c x9 x10 x12 x13 n22 x33A x33n x33c x34 x35 x40 x41 w21)
abbrev slide_pack.p15 (L2 : FuncId → Array Value → Option Addr → Nat → Nat → Int → Int → Option Addr → Option Addr → Nat → Nat → Int → Int → Int → Int → World → Prop) (L1 : FuncId → Array Value → Option Addr → Nat → Nat → Int → Int → Option Addr → Nat → Nat → Int → Int → World → Prop) (K : Value → World → Prop) (x2g : FuncId) (x2c : Array Value) (x6A : Option Addr) (x6n : Nat) (x6c : Nat) (x9 : Int) (x10 : Int) (x12 : Option Addr) (x13 : Int) (x33A : Option Addr) (x33n : Nat) (x33c : Nat) (x34 : Int) (x35 : Int) (x40 : Int) (x41 : Int) (w : World) : Prop :=
  CallsE Tryd.prog 45 #[.pointer x12, .int .i64 x13] w (fun v17 w18 => ∃ (b19 : Bool), v17 = .bool b19 ∧ condP (!b19) (slide_pack.p16 L2 L1 K x2g x2c x6A x6n x6c x9 x10 x12 x33A x33n x33c x34 x35 x40 x41 w18) (slide_pack.p17 L2 L1 K x2g x2c x6A x6n x6c x9 x10 x12 x13 x33A x33n x33c x34 x35 x40 x41 w18))
abbrev slide_pack.p14 (L2 : FuncId → Array Value → Option Addr → Nat → Nat → Int → Int → Option Addr → Option Addr → Nat → Nat → Int → Int → Int → Int → World → Prop) (L1 : FuncId → Array Value → Option Addr → Nat → Nat → Int → Int → Option Addr → Nat → Nat → Int → Int → World → Prop) (K : Value → World → Prop) (x2g : FuncId) (x2c : Array Value) (x6A : Option Addr) (x6n : Nat) (x6c : Nat) (x9 : Int) (x10 : Int) (x12 : Option Addr) (x33A : Option Addr) (x33n : Nat) (x33c : Nat) (x34 : Int) (x35 : Int) (x40 : Int) (x41 : Int) (w : World) : Prop :=
  slide_pack.p15 L2 L1 K x2g x2c x6A x6n x6c x9 x10 x12 x41 x33A x33n x33c x34 x35 x40 x41 w
abbrev slide_pack.p23 (L1 : FuncId → Array Value → Option Addr → Nat → Nat → Int → Int → Option Addr → Nat → Nat → Int → Int → World → Prop) (K : Value → World → Prop) (x2g : FuncId) (x2c : Array Value) (x6A : Option Addr) (x6n : Nat) (x6c : Nat) (x9 : Int) (x10 : Int) (x33A : Option Addr) (x33n : Nat) (x33c : Nat) (x34 : Int) (x35 : Int) (w : World) : Prop :=
  L1 x2g x2c x6A x6n x6c x9 x10 x33A x33n x33c x34 (IntKind.wrap .i64 (x35 + (1 : Int))) w
abbrev slide_pack.p13 (L2 : FuncId → Array Value → Option Addr → Nat → Nat → Int → Int → Option Addr → Option Addr → Nat → Nat → Int → Int → Int → Int → World → Prop) (L1 : FuncId → Array Value → Option Addr → Nat → Nat → Int → Int → Option Addr → Nat → Nat → Int → Int → World → Prop) (K : Value → World → Prop) (x2g : FuncId) (x2c : Array Value) (x6A : Option Addr) (x6n : Nat) (x6c : Nat) (x9 : Int) (x10 : Int) (x12 : Option Addr) (x33A : Option Addr) (x33n : Nat) (x33c : Nat) (x34 : Int) (x35 : Int) (x40 : Int) (x41 : Int) (x42 : Bool) (w : World) : Prop :=
  condP x42 (slide_pack.p14 L2 L1 K x2g x2c x6A x6n x6c x9 x10 x12 x33A x33n x33c x34 x35 x40 x41 w) (slide_pack.p23 L1 K x2g x2c x6A x6n x6c x9 x10 x33A x33n x33c x34 x35 w)
abbrev slide_pack.b2 (L2 : FuncId → Array Value → Option Addr → Nat → Nat → Int → Int → Option Addr → Option Addr → Nat → Nat → Int → Int → Int → Int → World → Prop) (L1 : FuncId → Array Value → Option Addr → Nat → Nat → Int → Int → Option Addr → Nat → Nat → Int → Int → World → Prop) (K : Value → World → Prop) (x2g : FuncId) (x2c : Array Value) (x6A : Option Addr) (x6n : Nat) (x6c : Nat) (x9 : Int) (x10 : Int) (x12 : Option Addr) (x33A : Option Addr) (x33n : Nat) (x33c : Nat) (x34 : Int) (x35 : Int) (x40 : Int) (x41 : Int) (w : World) : Prop :=
  slide_pack.p13 L2 L1 K x2g x2c x6A x6n x6c x9 x10 x12 x33A x33n x33c x34 x35 x40 x41 (decide (x41 < x40)) w
def slide_pack.l2 (L1 : FuncId → Array Value → Option Addr → Nat → Nat → Int → Int → Option Addr → Nat → Nat → Int → Int → World → Prop) (K : Value → World → Prop) (k : Nat) : FuncId → Array Value → Option Addr → Nat → Nat → Int → Int → Option Addr → Option Addr → Nat → Nat → Int → Int → Int → Int → World → Prop :=
  Nat.rec (motive := fun _ => FuncId → Array Value → Option Addr → Nat → Nat → Int → Int → Option Addr → Option Addr → Nat → Nat → Int → Int → Int → Int → World → Prop) (fun _ _ _ _ _ _ _ _ _ _ _ _ _ _ _ _ => False) (fun _ ih => slide_pack.b2 ih L1 K) k
theorem slide_pack.l2_succ (L1 : FuncId → Array Value → Option Addr → Nat → Nat → Int → Int → Option Addr → Nat → Nat → Int → Int → World → Prop) (K : Value → World → Prop) (k : Nat) (x2g : FuncId) (x2c : Array Value) (x6A : Option Addr) (x6n : Nat) (x6c : Nat) (x9 : Int) (x10 : Int) (x12 : Option Addr) (x33A : Option Addr) (x33n : Nat) (x33c : Nat) (x34 : Int) (x35 : Int) (x40 : Int) (x41 : Int) (w : World) : slide_pack.l2 L1 K (k + 1) x2g x2c x6A x6n x6c x9 x10 x12 x33A x33n x33c x34 x35 x40 x41 w = slide_pack.b2 (slide_pack.l2 L1 K k) L1 K x2g x2c x6A x6n x6c x9 x10 x12 x33A x33n x33c x34 x35 x40 x41 w := rfl
abbrev slide_pack.p12 (L1 : FuncId → Array Value → Option Addr → Nat → Nat → Int → Int → Option Addr → Nat → Nat → Int → Int → World → Prop) (K : Value → World → Prop) (x2g : FuncId) (x2c : Array Value) (x6A : Option Addr) (x6n : Nat) (x6c : Nat) (x9 : Int) (x10 : Int) (x12 : Option Addr) (x33A : Option Addr) (x33n : Nat) (x33c : Nat) (x34 : Int) (x35 : Int) (x40 : Int) (x41 : Int) (w : World) : Prop :=
  ∃ k, slide_pack.l2 L1 K k x2g x2c x6A x6n x6c x9 x10 x12 x33A x33n x33c x34 x35 x40 x41 w
abbrev slide_pack.p11 (L1 : FuncId → Array Value → Option Addr → Nat → Nat → Int → Int → Option Addr → Nat → Nat → Int → Int → World → Prop) (K : Value → World → Prop) (x2g : FuncId) (x2c : Array Value) (x6A : Option Addr) (x6n : Nat) (x6c : Nat) (x9 : Int) (x10 : Int) (x12 : Option Addr) (x33A : Option Addr) (x33n : Nat) (x33c : Nat) (x34 : Int) (x35 : Int) (w : World) : Prop :=
  CallsE Tryd.prog 23 #[.pointer x12] w (fun v14 w15 => ∃ (n16 : Int), v14 = .int .i64 n16 ∧ slide_pack.p12 L1 K x2g x2c x6A x6n x6c x9 x10 x12 x33A x33n x33c x34 x35 n16 0 w15)
abbrev slide_pack.p10 (L1 : FuncId → Array Value → Option Addr → Nat → Nat → Int → Int → Option Addr → Nat → Nat → Int → Int → World → Prop) (K : Value → World → Prop) (x2g : FuncId) (x2c : Array Value) (x6A : Option Addr) (x6n : Nat) (x6c : Nat) (x9 : Int) (x10 : Int) (x12 : Option Addr) (x33A : Option Addr) (x33n : Nat) (x33c : Nat) (x34 : Int) (x35 : Int) (w : World) : Prop :=
  slide_pack.p11 L1 K x2g x2c x6A x6n x6c x9 x10 x12 x33A x33n x33c x34 x35 w
abbrev slide_pack.p9 (L1 : FuncId → Array Value → Option Addr → Nat → Nat → Int → Int → Option Addr → Nat → Nat → Int → Int → World → Prop) (K : Value → World → Prop) (x2g : FuncId) (x2c : Array Value) (x6A : Option Addr) (x6n : Nat) (x6c : Nat) (x9 : Int) (x10 : Int) (x33A : Option Addr) (x33n : Nat) (x33c : Nat) (x34 : Int) (x35 : Int) (w : World) : Prop :=
  (0 ≤ x35 ∧ x35 < ((x33n : Nat) : Int)) ∧ ∃ (a12 : Addr), x33A = some a12 ∧ ∃ (p13 : Option Addr), w.cell? (a12.add x35.toNat) = some (.pointer p13) ∧ slide_pack.p10 L1 K x2g x2c x6A x6n x6c x9 x10 p13 x33A x33n x33c x34 x35 w
abbrev slide_pack.p8 (L1 : FuncId → Array Value → Option Addr → Nat → Nat → Int → Int → Option Addr → Nat → Nat → Int → Int → World → Prop) (K : Value → World → Prop) (x2g : FuncId) (x2c : Array Value) (x6A : Option Addr) (x6n : Nat) (x6c : Nat) (x9 : Int) (x10 : Int) (x33A : Option Addr) (x33n : Nat) (x33c : Nat) (x34 : Int) (x35 : Int) (x36 : Bool) (w : World) : Prop :=
  condP x36 (slide_pack.p9 L1 K x2g x2c x6A x6n x6c x9 x10 x33A x33n x33c x34 x35 w) (K (.tuple #[]) w)
abbrev slide_pack.b1 (L1 : FuncId → Array Value → Option Addr → Nat → Nat → Int → Int → Option Addr → Nat → Nat → Int → Int → World → Prop) (K : Value → World → Prop) (x2g : FuncId) (x2c : Array Value) (x6A : Option Addr) (x6n : Nat) (x6c : Nat) (x9 : Int) (x10 : Int) (x33A : Option Addr) (x33n : Nat) (x33c : Nat) (x34 : Int) (x35 : Int) (w : World) : Prop :=
  slide_pack.p8 L1 K x2g x2c x6A x6n x6c x9 x10 x33A x33n x33c x34 x35 (decide (x35 < x34)) w
def slide_pack.l1 (K : Value → World → Prop) (k : Nat) : FuncId → Array Value → Option Addr → Nat → Nat → Int → Int → Option Addr → Nat → Nat → Int → Int → World → Prop :=
  Nat.rec (motive := fun _ => FuncId → Array Value → Option Addr → Nat → Nat → Int → Int → Option Addr → Nat → Nat → Int → Int → World → Prop) (fun _ _ _ _ _ _ _ _ _ _ _ _ _ => False) (fun _ ih => slide_pack.b1 ih K) k
theorem slide_pack.l1_succ (K : Value → World → Prop) (k : Nat) (x2g : FuncId) (x2c : Array Value) (x6A : Option Addr) (x6n : Nat) (x6c : Nat) (x9 : Int) (x10 : Int) (x33A : Option Addr) (x33n : Nat) (x33c : Nat) (x34 : Int) (x35 : Int) (w : World) : slide_pack.l1 K (k + 1) x2g x2c x6A x6n x6c x9 x10 x33A x33n x33c x34 x35 w = slide_pack.b1 (slide_pack.l1 K k) K x2g x2c x6A x6n x6c x9 x10 x33A x33n x33c x34 x35 w := rfl
abbrev slide_pack.p7 (K : Value → World → Prop) (x2g : FuncId) (x2c : Array Value) (x6A : Option Addr) (x6n : Nat) (x6c : Nat) (x9 : Int) (x10 : Int) (x33A : Option Addr) (x33n : Nat) (x33c : Nat) (x34 : Int) (x35 : Int) (w : World) : Prop :=
  ∃ k, slide_pack.l1 K k x2g x2c x6A x6n x6c x9 x10 x33A x33n x33c x34 x35 w
abbrev slide_pack.p6 (K : Value → World → Prop) (x2g : FuncId) (x2c : Array Value) (x6A : Option Addr) (x6n : Nat) (x6c : Nat) (x9 : Int) (x10 : Int) (w : World) : Prop :=
  slide_pack.p7 K x2g x2c x6A x6n x6c x9 x10 x6A x6n x6c ((x6n : Nat) : Int) 0 w
abbrev slide_pack.p5 (K : Value → World → Prop) (x2g : FuncId) (x2c : Array Value) (x6A : Option Addr) (x6n : Nat) (x6c : Nat) (w : World) : Prop :=
  slide_pack.p6 K x2g x2c x6A x6n x6c 0 0 w
abbrev slide_pack.p2 (L0 : Int → FuncId → Array Value → Option Addr → Nat → Nat → Option Addr → Nat → Nat → Int → Int → World → Prop) (K : Value → World → Prop) (x1 : Int) (x2g : FuncId) (x2c : Array Value) (x6A : Option Addr) (x6n : Nat) (x6c : Nat) (x18A : Option Addr) (x18n : Nat) (x18c : Nat) (x19 : Int) (x20 : Int) (x21 : Bool) (w : World) : Prop :=
  condP x21 (slide_pack.p3 L0 K x1 x2g x2c x6A x6n x6c x18A x18n x18c x19 x20 w) (slide_pack.p5 K x2g x2c x6A x6n x6c w)
abbrev slide_pack.b0 (L0 : Int → FuncId → Array Value → Option Addr → Nat → Nat → Option Addr → Nat → Nat → Int → Int → World → Prop) (K : Value → World → Prop) (x1 : Int) (x2g : FuncId) (x2c : Array Value) (x6A : Option Addr) (x6n : Nat) (x6c : Nat) (x18A : Option Addr) (x18n : Nat) (x18c : Nat) (x19 : Int) (x20 : Int) (w : World) : Prop :=
  slide_pack.p2 L0 K x1 x2g x2c x6A x6n x6c x18A x18n x18c x19 x20 (decide (x20 < x19)) w
def slide_pack.l0 (K : Value → World → Prop) (k : Nat) : Int → FuncId → Array Value → Option Addr → Nat → Nat → Option Addr → Nat → Nat → Int → Int → World → Prop :=
  Nat.rec (motive := fun _ => Int → FuncId → Array Value → Option Addr → Nat → Nat → Option Addr → Nat → Nat → Int → Int → World → Prop) (fun _ _ _ _ _ _ _ _ _ _ _ _ => False) (fun _ ih => slide_pack.b0 ih K) k
theorem slide_pack.l0_succ (K : Value → World → Prop) (k : Nat) (x1 : Int) (x2g : FuncId) (x2c : Array Value) (x6A : Option Addr) (x6n : Nat) (x6c : Nat) (x18A : Option Addr) (x18n : Nat) (x18c : Nat) (x19 : Int) (x20 : Int) (w : World) : slide_pack.l0 K (k + 1) x1 x2g x2c x6A x6n x6c x18A x18n x18c x19 x20 w = slide_pack.b0 (slide_pack.l0 K k) K x1 x2g x2c x6A x6n x6c x18A x18n x18c x19 x20 w := rfl
abbrev slide_pack.p1 (K : Value → World → Prop) (x1 : Int) (x2g : FuncId) (x2c : Array Value) (x6A : Option Addr) (x6n : Nat) (x6c : Nat) (x18A : Option Addr) (x18n : Nat) (x18c : Nat) (x19 : Int) (x20 : Int) (w : World) : Prop :=
  ∃ k, slide_pack.l0 K k x1 x2g x2c x6A x6n x6c x18A x18n x18c x19 x20 w
abbrev slide_pack.p0 (K : Value → World → Prop) (x0A : Option Addr) (x0n : Nat) (x0c : Nat) (x1 : Int) (x2g : FuncId) (x2c : Array Value) (x6A : Option Addr) (x6n : Nat) (x6c : Nat) (w : World) : Prop :=
  slide_pack.p1 K x1 x2g x2c x6A x6n x6c x0A x0n x0c ((x0n : Nat) : Int) 0 w
abbrev slide_pack.F (q0A : Option Addr) (q0n : Nat) (q0c : Nat) (q1 : Int) (q2g : FuncId) (q2c : Array Value) (K : Value → World → Prop) (w : World) : Prop :=
  slide_pack.p0 K q0A q0n q0c q1 q2g q2c none 0 0 w
theorem slide_pack.ok {q0A : Option Addr} {q0n : Nat} {q0c : Nat} {q1 : Int} {q2g : FuncId} {q2c : Array Value} {K : Value → World → Prop} {w : World} (h : slide_pack.F q0A q0n q0c q1 q2g q2c K w) :
    CallsE Tryd.prog 27 #[.slice q0A q0n q0c, .int .i64 q1, .func (.func q2g) #[] q2c] w K := by
  refine calls_of_J (n := 90) (rs := []) Tryd.func27 rfl rfl rfl rfl ?_
  refine J_seq (fun σ w => vS (σ 0) fun x0A x0n x0c => vI .i64 (σ 1) fun x1 => vF (σ 2) fun x2g x2c => vS (σ 6) fun x6A x6n x6c => slide_pack.p0 K x0A x0n x0c x1 x2g x2c x6A x6n x6c w) ?_ ?_
  ·
    exact sh_sound _ _ _ _ (Eq.mp (by kernel_rfl) h)
  · intro σ w h
    obtain ⟨x0A, x0n, x0c, e0, h⟩ := vS_elim h
    obtain ⟨x1, e1, h⟩ := vI_elim h
    obtain ⟨x2g, x2c, e2, h⟩ := vF_elim h
    obtain ⟨x6A, x6n, x6c, e6, h⟩ := vS_elim h
    refine J.sub ?_ (((((Sub.base _).upd e0).upd e1).upd e2).upd e6)
    clear e0 e1 e2 e6
    refine J_seq (fun σ w => vF (σ 2) fun x2g x2c => vS (σ 6) fun x6A x6n x6c => slide_pack.p5 K x2g x2c x6A x6n x6c w) ?_ ?_
    ·
      refine J_seq (fun σ w => vI .i64 (σ 1) fun x1 => vF (σ 2) fun x2g x2c => vS (σ 6) fun x6A x6n x6c => vS (σ 18) fun x18A x18n x18c => vI .i64 (σ 19) fun x19 => vI .i64 (σ 20) fun x20 => slide_pack.p1 K x1 x2g x2c x6A x6n x6c x18A x18n x18c x19 x20 w) ?_ ?_
      ·
        exact sh_sound _ _ _ _ (Eq.mp (by kernel_rfl) h)
      · intro σ w h
        obtain ⟨x1, e1, h⟩ := vI_elim h
        obtain ⟨x2g, x2c, e2, h⟩ := vF_elim h
        obtain ⟨x6A, x6n, x6c, e6, h⟩ := vS_elim h
        obtain ⟨x18A, x18n, x18c, e18, h⟩ := vS_elim h
        obtain ⟨x19, e19, h⟩ := vI_elim h
        obtain ⟨x20, e20, h⟩ := vI_elim h
        refine J.sub ?_ (((((((Sub.base _).upd e1).upd e2).upd e6).upd e18).upd e19).upd e20)
        clear e1 e2 e6 e18 e19 e20
        refine J_block ?_
        refine J_loop (fun k σ w => vI .i64 (σ 1) fun x1 => vF (σ 2) fun x2g x2c => vS (σ 6) fun x6A x6n x6c => vS (σ 18) fun x18A x18n x18c => vI .i64 (σ 19) fun x19 => vI .i64 (σ 20) fun x20 => slide_pack.l0 K k x1 x2g x2c x6A x6n x6c x18A x18n x18c x19 x20 w) (Eq.mp (by kernel_rfl) h) ?_ ?_
        · intro σ w h
          obtain ⟨x1, e1, h⟩ := vI_elim h
          obtain ⟨x2g, x2c, e2, h⟩ := vF_elim h
          obtain ⟨x6A, x6n, x6c, e6, h⟩ := vS_elim h
          obtain ⟨x18A, x18n, x18c, e18, h⟩ := vS_elim h
          obtain ⟨x19, e19, h⟩ := vI_elim h
          obtain ⟨x20, e20, h⟩ := vI_elim h
          exact h
        · intro k0 σ w h
          obtain ⟨x1, e1, h⟩ := vI_elim h
          obtain ⟨x2g, x2c, e2, h⟩ := vF_elim h
          obtain ⟨x6A, x6n, x6c, e6, h⟩ := vS_elim h
          obtain ⟨x18A, x18n, x18c, e18, h⟩ := vS_elim h
          obtain ⟨x19, e19, h⟩ := vI_elim h
          obtain ⟨x20, e20, h⟩ := vI_elim h
          refine J.sub ?_ (((((((Sub.base _).upd e1).upd e2).upd e6).upd e18).upd e19).upd e20)
          clear e1 e2 e6 e18 e19 e20
          refine J_seq (fun σ w => vI .i64 (σ 1) fun x1 => vF (σ 2) fun x2g x2c => vS (σ 6) fun x6A x6n x6c => vS (σ 18) fun x18A x18n x18c => vI .i64 (σ 19) fun x19 => vI .i64 (σ 20) fun x20 => vB (σ 21) fun x21 => slide_pack.p2 (slide_pack.l0 K k0) K x1 x2g x2c x6A x6n x6c x18A x18n x18c x19 x20 x21 w) ?_ ?_
          ·
            exact sh_sound _ _ _ _ (Eq.mp (by kernel_rfl) h)
          · intro σ w h
            obtain ⟨x1, e1, h⟩ := vI_elim h
            obtain ⟨x2g, x2c, e2, h⟩ := vF_elim h
            obtain ⟨x6A, x6n, x6c, e6, h⟩ := vS_elim h
            obtain ⟨x18A, x18n, x18c, e18, h⟩ := vS_elim h
            obtain ⟨x19, e19, h⟩ := vI_elim h
            obtain ⟨x20, e20, h⟩ := vI_elim h
            obtain ⟨x21, e21, h⟩ := vB_elim h
            refine J.sub ?_ ((((((((Sub.base _).upd e1).upd e2).upd e6).upd e18).upd e19).upd e20).upd e21)
            clear e1 e2 e6 e18 e19 e20 e21
            refine J_seq (fun σ w => vI .i64 (σ 1) fun x1 => vF (σ 2) fun x2g x2c => vS (σ 6) fun x6A x6n x6c => vS (σ 18) fun x18A x18n x18c => vI .i64 (σ 19) fun x19 => vI .i64 (σ 20) fun x20 => slide_pack.p3 (slide_pack.l0 K k0) K x1 x2g x2c x6A x6n x6c x18A x18n x18c x19 x20 w) ?_ ?_
            ·
              exact sh_sound _ _ _ _ (Eq.mp (by kernel_rfl) h)
            · intro σ w h
              obtain ⟨x1, e1, h⟩ := vI_elim h
              obtain ⟨x2g, x2c, e2, h⟩ := vF_elim h
              obtain ⟨x6A, x6n, x6c, e6, h⟩ := vS_elim h
              obtain ⟨x18A, x18n, x18c, e18, h⟩ := vS_elim h
              obtain ⟨x19, e19, h⟩ := vI_elim h
              obtain ⟨x20, e20, h⟩ := vI_elim h
              refine J.sub ?_ (((((((Sub.base _).upd e1).upd e2).upd e6).upd e18).upd e19).upd e20)
              clear e1 e2 e6 e18 e19 e20
              refine J_seq (fun σ w => vI .i64 (σ 1) fun x1 => vF (σ 2) fun x2g x2c => vS (σ 6) fun x6A x6n x6c => vS (σ 18) fun x18A x18n x18c => vI .i64 (σ 19) fun x19 => vI .i64 (σ 20) fun x20 => slide_pack.p4 (slide_pack.l0 K k0) K x1 x2g x2c x6A x6n x6c x18A x18n x18c x19 x20 w) ?_ ?_
              ·
                exact sh_sound _ _ _ _ (Eq.mp (by kernel_rfl) h)
              · intro σ w h
                obtain ⟨x1, e1, h⟩ := vI_elim h
                obtain ⟨x2g, x2c, e2, h⟩ := vF_elim h
                obtain ⟨x6A, x6n, x6c, e6, h⟩ := vS_elim h
                obtain ⟨x18A, x18n, x18c, e18, h⟩ := vS_elim h
                obtain ⟨x19, e19, h⟩ := vI_elim h
                obtain ⟨x20, e20, h⟩ := vI_elim h
                refine J.sub ?_ (((((((Sub.base _).upd e1).upd e2).upd e6).upd e18).upd e19).upd e20)
                clear e1 e2 e6 e18 e19 e20
                exact sh_sound _ _ _ _ (Eq.mp (by kernel_rfl) h)
    · intro σ w h
      obtain ⟨x2g, x2c, e2, h⟩ := vF_elim h
      obtain ⟨x6A, x6n, x6c, e6, h⟩ := vS_elim h
      refine J.sub ?_ (((Sub.base _).upd e2).upd e6)
      clear e2 e6
      refine J_seq (fun σ w => vF (σ 2) fun x2g x2c => vS (σ 6) fun x6A x6n x6c => vI .i64 (σ 9) fun x9 => vI .i64 (σ 10) fun x10 => slide_pack.p6 K x2g x2c x6A x6n x6c x9 x10 w) ?_ ?_
      ·
        exact sh_sound _ _ _ _ (Eq.mp (by kernel_rfl) h)
      · intro σ w h
        obtain ⟨x2g, x2c, e2, h⟩ := vF_elim h
        obtain ⟨x6A, x6n, x6c, e6, h⟩ := vS_elim h
        obtain ⟨x9, e9, h⟩ := vI_elim h
        obtain ⟨x10, e10, h⟩ := vI_elim h
        refine J.sub ?_ (((((Sub.base _).upd e2).upd e6).upd e9).upd e10)
        clear e2 e6 e9 e10
        refine J_seq (fun σ w => vF (σ 2) fun x2g x2c => vS (σ 6) fun x6A x6n x6c => vI .i64 (σ 9) fun x9 => vI .i64 (σ 10) fun x10 => vS (σ 33) fun x33A x33n x33c => vI .i64 (σ 34) fun x34 => vI .i64 (σ 35) fun x35 => slide_pack.p7 K x2g x2c x6A x6n x6c x9 x10 x33A x33n x33c x34 x35 w) ?_ ?_
        ·
          exact sh_sound _ _ _ _ (Eq.mp (by kernel_rfl) h)
        · intro σ w h
          obtain ⟨x2g, x2c, e2, h⟩ := vF_elim h
          obtain ⟨x6A, x6n, x6c, e6, h⟩ := vS_elim h
          obtain ⟨x9, e9, h⟩ := vI_elim h
          obtain ⟨x10, e10, h⟩ := vI_elim h
          obtain ⟨x33A, x33n, x33c, e33, h⟩ := vS_elim h
          obtain ⟨x34, e34, h⟩ := vI_elim h
          obtain ⟨x35, e35, h⟩ := vI_elim h
          refine J.sub ?_ ((((((((Sub.base _).upd e2).upd e6).upd e9).upd e10).upd e33).upd e34).upd e35)
          clear e2 e6 e9 e10 e33 e34 e35
          refine J_block ?_
          refine J_loop (fun k σ w => vF (σ 2) fun x2g x2c => vS (σ 6) fun x6A x6n x6c => vI .i64 (σ 9) fun x9 => vI .i64 (σ 10) fun x10 => vS (σ 33) fun x33A x33n x33c => vI .i64 (σ 34) fun x34 => vI .i64 (σ 35) fun x35 => slide_pack.l1 K k x2g x2c x6A x6n x6c x9 x10 x33A x33n x33c x34 x35 w) (Eq.mp (by kernel_rfl) h) ?_ ?_
          · intro σ w h
            obtain ⟨x2g, x2c, e2, h⟩ := vF_elim h
            obtain ⟨x6A, x6n, x6c, e6, h⟩ := vS_elim h
            obtain ⟨x9, e9, h⟩ := vI_elim h
            obtain ⟨x10, e10, h⟩ := vI_elim h
            obtain ⟨x33A, x33n, x33c, e33, h⟩ := vS_elim h
            obtain ⟨x34, e34, h⟩ := vI_elim h
            obtain ⟨x35, e35, h⟩ := vI_elim h
            exact h
          · intro k1 σ w h
            obtain ⟨x2g, x2c, e2, h⟩ := vF_elim h
            obtain ⟨x6A, x6n, x6c, e6, h⟩ := vS_elim h
            obtain ⟨x9, e9, h⟩ := vI_elim h
            obtain ⟨x10, e10, h⟩ := vI_elim h
            obtain ⟨x33A, x33n, x33c, e33, h⟩ := vS_elim h
            obtain ⟨x34, e34, h⟩ := vI_elim h
            obtain ⟨x35, e35, h⟩ := vI_elim h
            refine J.sub ?_ ((((((((Sub.base _).upd e2).upd e6).upd e9).upd e10).upd e33).upd e34).upd e35)
            clear e2 e6 e9 e10 e33 e34 e35
            refine J_seq (fun σ w => vF (σ 2) fun x2g x2c => vS (σ 6) fun x6A x6n x6c => vI .i64 (σ 9) fun x9 => vI .i64 (σ 10) fun x10 => vS (σ 33) fun x33A x33n x33c => vI .i64 (σ 34) fun x34 => vI .i64 (σ 35) fun x35 => vB (σ 36) fun x36 => slide_pack.p8 (slide_pack.l1 K k1) K x2g x2c x6A x6n x6c x9 x10 x33A x33n x33c x34 x35 x36 w) ?_ ?_
            ·
              exact sh_sound _ _ _ _ (Eq.mp (by kernel_rfl) h)
            · intro σ w h
              obtain ⟨x2g, x2c, e2, h⟩ := vF_elim h
              obtain ⟨x6A, x6n, x6c, e6, h⟩ := vS_elim h
              obtain ⟨x9, e9, h⟩ := vI_elim h
              obtain ⟨x10, e10, h⟩ := vI_elim h
              obtain ⟨x33A, x33n, x33c, e33, h⟩ := vS_elim h
              obtain ⟨x34, e34, h⟩ := vI_elim h
              obtain ⟨x35, e35, h⟩ := vI_elim h
              obtain ⟨x36, e36, h⟩ := vB_elim h
              refine J.sub ?_ (((((((((Sub.base _).upd e2).upd e6).upd e9).upd e10).upd e33).upd e34).upd e35).upd e36)
              clear e2 e6 e9 e10 e33 e34 e35 e36
              refine J_seq (fun σ w => vF (σ 2) fun x2g x2c => vS (σ 6) fun x6A x6n x6c => vI .i64 (σ 9) fun x9 => vI .i64 (σ 10) fun x10 => vS (σ 33) fun x33A x33n x33c => vI .i64 (σ 34) fun x34 => vI .i64 (σ 35) fun x35 => slide_pack.p9 (slide_pack.l1 K k1) K x2g x2c x6A x6n x6c x9 x10 x33A x33n x33c x34 x35 w) ?_ ?_
              ·
                exact sh_sound _ _ _ _ (Eq.mp (by kernel_rfl) h)
              · intro σ w h
                obtain ⟨x2g, x2c, e2, h⟩ := vF_elim h
                obtain ⟨x6A, x6n, x6c, e6, h⟩ := vS_elim h
                obtain ⟨x9, e9, h⟩ := vI_elim h
                obtain ⟨x10, e10, h⟩ := vI_elim h
                obtain ⟨x33A, x33n, x33c, e33, h⟩ := vS_elim h
                obtain ⟨x34, e34, h⟩ := vI_elim h
                obtain ⟨x35, e35, h⟩ := vI_elim h
                refine J.sub ?_ ((((((((Sub.base _).upd e2).upd e6).upd e9).upd e10).upd e33).upd e34).upd e35)
                clear e2 e6 e9 e10 e33 e34 e35
                refine J_seq (fun σ w => vF (σ 2) fun x2g x2c => vS (σ 6) fun x6A x6n x6c => vI .i64 (σ 9) fun x9 => vI .i64 (σ 10) fun x10 => vS (σ 33) fun x33A x33n x33c => vI .i64 (σ 34) fun x34 => vI .i64 (σ 35) fun x35 => slide_pack.p23 (slide_pack.l1 K k1) K x2g x2c x6A x6n x6c x9 x10 x33A x33n x33c x34 x35 w) ?_ ?_
                ·
                  refine J_block ?_
                  refine J_seq (fun σ w => vF (σ 2) fun x2g x2c => vS (σ 6) fun x6A x6n x6c => vI .i64 (σ 9) fun x9 => vI .i64 (σ 10) fun x10 => vP (σ 12) fun x12 => vS (σ 33) fun x33A x33n x33c => vI .i64 (σ 34) fun x34 => vI .i64 (σ 35) fun x35 => slide_pack.p10 (slide_pack.l1 K k1) K x2g x2c x6A x6n x6c x9 x10 x12 x33A x33n x33c x34 x35 w) ?_ ?_
                  ·
                    exact sh_sound _ _ _ _ (Eq.mp (by kernel_rfl) h)
                  · intro σ w h
                    obtain ⟨x2g, x2c, e2, h⟩ := vF_elim h
                    obtain ⟨x6A, x6n, x6c, e6, h⟩ := vS_elim h
                    obtain ⟨x9, e9, h⟩ := vI_elim h
                    obtain ⟨x10, e10, h⟩ := vI_elim h
                    obtain ⟨x12, e12, h⟩ := vP_elim h
                    obtain ⟨x33A, x33n, x33c, e33, h⟩ := vS_elim h
                    obtain ⟨x34, e34, h⟩ := vI_elim h
                    obtain ⟨x35, e35, h⟩ := vI_elim h
                    refine J.sub ?_ (((((((((Sub.base _).upd e2).upd e6).upd e9).upd e10).upd e12).upd e33).upd e34).upd e35)
                    clear e2 e6 e9 e10 e12 e33 e34 e35
                    refine J_scope ?_
                    refine J_seq (fun σ w => vF (σ 2) fun x2g x2c => vS (σ 6) fun x6A x6n x6c => vI .i64 (σ 9) fun x9 => vI .i64 (σ 10) fun x10 => vP (σ 12) fun x12 => vS (σ 33) fun x33A x33n x33c => vI .i64 (σ 34) fun x34 => vI .i64 (σ 35) fun x35 => slide_pack.p11 (slide_pack.l1 K k1) K x2g x2c x6A x6n x6c x9 x10 x12 x33A x33n x33c x34 x35 w) ?_ ?_
                    ·
                      exact sh_sound _ _ _ _ (Eq.mp (by kernel_rfl) h)
                    · intro σ w h
                      obtain ⟨x2g, x2c, e2, h⟩ := vF_elim h
                      obtain ⟨x6A, x6n, x6c, e6, h⟩ := vS_elim h
                      obtain ⟨x9, e9, h⟩ := vI_elim h
                      obtain ⟨x10, e10, h⟩ := vI_elim h
                      obtain ⟨x12, e12, h⟩ := vP_elim h
                      obtain ⟨x33A, x33n, x33c, e33, h⟩ := vS_elim h
                      obtain ⟨x34, e34, h⟩ := vI_elim h
                      obtain ⟨x35, e35, h⟩ := vI_elim h
                      refine J.sub ?_ (((((((((Sub.base _).upd e2).upd e6).upd e9).upd e10).upd e12).upd e33).upd e34).upd e35)
                      clear e2 e6 e9 e10 e12 e33 e34 e35
                      refine J_seq (fun σ w => vF (σ 2) fun x2g x2c => vS (σ 6) fun x6A x6n x6c => vI .i64 (σ 9) fun x9 => vI .i64 (σ 10) fun x10 => vP (σ 12) fun x12 => vS (σ 33) fun x33A x33n x33c => vI .i64 (σ 34) fun x34 => vI .i64 (σ 35) fun x35 => vI .i64 (σ 40) fun x40 => vI .i64 (σ 41) fun x41 => slide_pack.p12 (slide_pack.l1 K k1) K x2g x2c x6A x6n x6c x9 x10 x12 x33A x33n x33c x34 x35 x40 x41 w) ?_ ?_
                      ·
                        exact sh_sound _ _ _ _ (Eq.mp (by kernel_rfl) h)
                      · intro σ w h
                        obtain ⟨x2g, x2c, e2, h⟩ := vF_elim h
                        obtain ⟨x6A, x6n, x6c, e6, h⟩ := vS_elim h
                        obtain ⟨x9, e9, h⟩ := vI_elim h
                        obtain ⟨x10, e10, h⟩ := vI_elim h
                        obtain ⟨x12, e12, h⟩ := vP_elim h
                        obtain ⟨x33A, x33n, x33c, e33, h⟩ := vS_elim h
                        obtain ⟨x34, e34, h⟩ := vI_elim h
                        obtain ⟨x35, e35, h⟩ := vI_elim h
                        obtain ⟨x40, e40, h⟩ := vI_elim h
                        obtain ⟨x41, e41, h⟩ := vI_elim h
                        refine J.sub ?_ (((((((((((Sub.base _).upd e2).upd e6).upd e9).upd e10).upd e12).upd e33).upd e34).upd e35).upd e40).upd e41)
                        clear e2 e6 e9 e10 e12 e33 e34 e35 e40 e41
                        refine J_block ?_
                        refine J_loop (fun k σ w => vF (σ 2) fun x2g x2c => vS (σ 6) fun x6A x6n x6c => vI .i64 (σ 9) fun x9 => vI .i64 (σ 10) fun x10 => vP (σ 12) fun x12 => vS (σ 33) fun x33A x33n x33c => vI .i64 (σ 34) fun x34 => vI .i64 (σ 35) fun x35 => vI .i64 (σ 40) fun x40 => vI .i64 (σ 41) fun x41 => slide_pack.l2 (slide_pack.l1 K k1) K k x2g x2c x6A x6n x6c x9 x10 x12 x33A x33n x33c x34 x35 x40 x41 w) (Eq.mp (by kernel_rfl) h) ?_ ?_
                        · intro σ w h
                          obtain ⟨x2g, x2c, e2, h⟩ := vF_elim h
                          obtain ⟨x6A, x6n, x6c, e6, h⟩ := vS_elim h
                          obtain ⟨x9, e9, h⟩ := vI_elim h
                          obtain ⟨x10, e10, h⟩ := vI_elim h
                          obtain ⟨x12, e12, h⟩ := vP_elim h
                          obtain ⟨x33A, x33n, x33c, e33, h⟩ := vS_elim h
                          obtain ⟨x34, e34, h⟩ := vI_elim h
                          obtain ⟨x35, e35, h⟩ := vI_elim h
                          obtain ⟨x40, e40, h⟩ := vI_elim h
                          obtain ⟨x41, e41, h⟩ := vI_elim h
                          exact h
                        · intro k2 σ w h
                          obtain ⟨x2g, x2c, e2, h⟩ := vF_elim h
                          obtain ⟨x6A, x6n, x6c, e6, h⟩ := vS_elim h
                          obtain ⟨x9, e9, h⟩ := vI_elim h
                          obtain ⟨x10, e10, h⟩ := vI_elim h
                          obtain ⟨x12, e12, h⟩ := vP_elim h
                          obtain ⟨x33A, x33n, x33c, e33, h⟩ := vS_elim h
                          obtain ⟨x34, e34, h⟩ := vI_elim h
                          obtain ⟨x35, e35, h⟩ := vI_elim h
                          obtain ⟨x40, e40, h⟩ := vI_elim h
                          obtain ⟨x41, e41, h⟩ := vI_elim h
                          refine J.sub ?_ (((((((((((Sub.base _).upd e2).upd e6).upd e9).upd e10).upd e12).upd e33).upd e34).upd e35).upd e40).upd e41)
                          clear e2 e6 e9 e10 e12 e33 e34 e35 e40 e41
                          refine J_seq (fun σ w => vF (σ 2) fun x2g x2c => vS (σ 6) fun x6A x6n x6c => vI .i64 (σ 9) fun x9 => vI .i64 (σ 10) fun x10 => vP (σ 12) fun x12 => vS (σ 33) fun x33A x33n x33c => vI .i64 (σ 34) fun x34 => vI .i64 (σ 35) fun x35 => vI .i64 (σ 40) fun x40 => vI .i64 (σ 41) fun x41 => vB (σ 42) fun x42 => slide_pack.p13 (slide_pack.l2 (slide_pack.l1 K k1) K k2) (slide_pack.l1 K k1) K x2g x2c x6A x6n x6c x9 x10 x12 x33A x33n x33c x34 x35 x40 x41 x42 w) ?_ ?_
                          ·
                            exact sh_sound _ _ _ _ (Eq.mp (by kernel_rfl) h)
                          · intro σ w h
                            obtain ⟨x2g, x2c, e2, h⟩ := vF_elim h
                            obtain ⟨x6A, x6n, x6c, e6, h⟩ := vS_elim h
                            obtain ⟨x9, e9, h⟩ := vI_elim h
                            obtain ⟨x10, e10, h⟩ := vI_elim h
                            obtain ⟨x12, e12, h⟩ := vP_elim h
                            obtain ⟨x33A, x33n, x33c, e33, h⟩ := vS_elim h
                            obtain ⟨x34, e34, h⟩ := vI_elim h
                            obtain ⟨x35, e35, h⟩ := vI_elim h
                            obtain ⟨x40, e40, h⟩ := vI_elim h
                            obtain ⟨x41, e41, h⟩ := vI_elim h
                            obtain ⟨x42, e42, h⟩ := vB_elim h
                            refine J.sub ?_ ((((((((((((Sub.base _).upd e2).upd e6).upd e9).upd e10).upd e12).upd e33).upd e34).upd e35).upd e40).upd e41).upd e42)
                            clear e2 e6 e9 e10 e12 e33 e34 e35 e40 e41 e42
                            refine J_seq (fun σ w => vF (σ 2) fun x2g x2c => vS (σ 6) fun x6A x6n x6c => vI .i64 (σ 9) fun x9 => vI .i64 (σ 10) fun x10 => vP (σ 12) fun x12 => vS (σ 33) fun x33A x33n x33c => vI .i64 (σ 34) fun x34 => vI .i64 (σ 35) fun x35 => vI .i64 (σ 40) fun x40 => vI .i64 (σ 41) fun x41 => slide_pack.p14 (slide_pack.l2 (slide_pack.l1 K k1) K k2) (slide_pack.l1 K k1) K x2g x2c x6A x6n x6c x9 x10 x12 x33A x33n x33c x34 x35 x40 x41 w) ?_ ?_
                            ·
                              exact sh_sound _ _ _ _ (Eq.mp (by kernel_rfl) h)
                            · intro σ w h
                              obtain ⟨x2g, x2c, e2, h⟩ := vF_elim h
                              obtain ⟨x6A, x6n, x6c, e6, h⟩ := vS_elim h
                              obtain ⟨x9, e9, h⟩ := vI_elim h
                              obtain ⟨x10, e10, h⟩ := vI_elim h
                              obtain ⟨x12, e12, h⟩ := vP_elim h
                              obtain ⟨x33A, x33n, x33c, e33, h⟩ := vS_elim h
                              obtain ⟨x34, e34, h⟩ := vI_elim h
                              obtain ⟨x35, e35, h⟩ := vI_elim h
                              obtain ⟨x40, e40, h⟩ := vI_elim h
                              obtain ⟨x41, e41, h⟩ := vI_elim h
                              refine J.sub ?_ (((((((((((Sub.base _).upd e2).upd e6).upd e9).upd e10).upd e12).upd e33).upd e34).upd e35).upd e40).upd e41)
                              clear e2 e6 e9 e10 e12 e33 e34 e35 e40 e41
                              refine J_seq (fun σ w => vF (σ 2) fun x2g x2c => vS (σ 6) fun x6A x6n x6c => vI .i64 (σ 9) fun x9 => vI .i64 (σ 10) fun x10 => vP (σ 12) fun x12 => vS (σ 33) fun x33A x33n x33c => vI .i64 (σ 34) fun x34 => vI .i64 (σ 35) fun x35 => vI .i64 (σ 40) fun x40 => vI .i64 (σ 41) fun x41 => slide_pack.p16 (slide_pack.l2 (slide_pack.l1 K k1) K k2) (slide_pack.l1 K k1) K x2g x2c x6A x6n x6c x9 x10 x12 x33A x33n x33c x34 x35 x40 x41 w) ?_ ?_
                              ·
                                refine J_block ?_
                                refine J_seq (fun σ w => vF (σ 2) fun x2g x2c => vS (σ 6) fun x6A x6n x6c => vI .i64 (σ 9) fun x9 => vI .i64 (σ 10) fun x10 => vP (σ 12) fun x12 => vI .i64 (σ 13) fun x13 => vS (σ 33) fun x33A x33n x33c => vI .i64 (σ 34) fun x34 => vI .i64 (σ 35) fun x35 => vI .i64 (σ 40) fun x40 => vI .i64 (σ 41) fun x41 => slide_pack.p15 (slide_pack.l2 (slide_pack.l1 K k1) K k2) (slide_pack.l1 K k1) K x2g x2c x6A x6n x6c x9 x10 x12 x13 x33A x33n x33c x34 x35 x40 x41 w) ?_ ?_
                                ·
                                  exact sh_sound _ _ _ _ (Eq.mp (by kernel_rfl) h)
                                · intro σ w h
                                  obtain ⟨x2g, x2c, e2, h⟩ := vF_elim h
                                  obtain ⟨x6A, x6n, x6c, e6, h⟩ := vS_elim h
                                  obtain ⟨x9, e9, h⟩ := vI_elim h
                                  obtain ⟨x10, e10, h⟩ := vI_elim h
                                  obtain ⟨x12, e12, h⟩ := vP_elim h
                                  obtain ⟨x13, e13, h⟩ := vI_elim h
                                  obtain ⟨x33A, x33n, x33c, e33, h⟩ := vS_elim h
                                  obtain ⟨x34, e34, h⟩ := vI_elim h
                                  obtain ⟨x35, e35, h⟩ := vI_elim h
                                  obtain ⟨x40, e40, h⟩ := vI_elim h
                                  obtain ⟨x41, e41, h⟩ := vI_elim h
                                  refine J.sub ?_ ((((((((((((Sub.base _).upd e2).upd e6).upd e9).upd e10).upd e12).upd e13).upd e33).upd e34).upd e35).upd e40).upd e41)
                                  clear e2 e6 e9 e10 e12 e13 e33 e34 e35 e40 e41
                                  refine J_seq (fun σ w => vF (σ 2) fun x2g x2c => vS (σ 6) fun x6A x6n x6c => vI .i64 (σ 9) fun x9 => vI .i64 (σ 10) fun x10 => vP (σ 12) fun x12 => vI .i64 (σ 13) fun x13 => vS (σ 33) fun x33A x33n x33c => vI .i64 (σ 34) fun x34 => vI .i64 (σ 35) fun x35 => vI .i64 (σ 40) fun x40 => vI .i64 (σ 41) fun x41 => slide_pack.p17 (slide_pack.l2 (slide_pack.l1 K k1) K k2) (slide_pack.l1 K k1) K x2g x2c x6A x6n x6c x9 x10 x12 x13 x33A x33n x33c x34 x35 x40 x41 w) ?_ ?_
                                  ·
                                    exact sh_sound _ _ _ _ (Eq.mp (by kernel_rfl) h)
                                  · intro σ w h
                                    obtain ⟨x2g, x2c, e2, h⟩ := vF_elim h
                                    obtain ⟨x6A, x6n, x6c, e6, h⟩ := vS_elim h
                                    obtain ⟨x9, e9, h⟩ := vI_elim h
                                    obtain ⟨x10, e10, h⟩ := vI_elim h
                                    obtain ⟨x12, e12, h⟩ := vP_elim h
                                    obtain ⟨x13, e13, h⟩ := vI_elim h
                                    obtain ⟨x33A, x33n, x33c, e33, h⟩ := vS_elim h
                                    obtain ⟨x34, e34, h⟩ := vI_elim h
                                    obtain ⟨x35, e35, h⟩ := vI_elim h
                                    obtain ⟨x40, e40, h⟩ := vI_elim h
                                    obtain ⟨x41, e41, h⟩ := vI_elim h
                                    refine J.sub ?_ ((((((((((((Sub.base _).upd e2).upd e6).upd e9).upd e10).upd e12).upd e13).upd e33).upd e34).upd e35).upd e40).upd e41)
                                    clear e2 e6 e9 e10 e12 e13 e33 e34 e35 e40 e41
                                    refine J_seq (fun σ w => vF (σ 2) fun x2g x2c => vS (σ 6) fun x6A x6n x6c => vI .i64 (σ 9) fun x9 => vI .i64 (σ 10) fun x10 => vP (σ 12) fun x12 => vI .i64 (σ 13) fun x13 => vI .i64 (σ 14) fun x14 => vS (σ 33) fun x33A x33n x33c => vI .i64 (σ 34) fun x34 => vI .i64 (σ 35) fun x35 => vI .i64 (σ 40) fun x40 => vI .i64 (σ 41) fun x41 => slide_pack.p18 (slide_pack.l2 (slide_pack.l1 K k1) K k2) (slide_pack.l1 K k1) K x2g x2c x6A x6n x6c x9 x10 x12 x13 x14 x33A x33n x33c x34 x35 x40 x41 w) ?_ ?_
                                    ·
                                      exact sh_sound _ _ _ _ (Eq.mp (by kernel_rfl) h)
                                    · intro σ w h
                                      obtain ⟨x2g, x2c, e2, h⟩ := vF_elim h
                                      obtain ⟨x6A, x6n, x6c, e6, h⟩ := vS_elim h
                                      obtain ⟨x9, e9, h⟩ := vI_elim h
                                      obtain ⟨x10, e10, h⟩ := vI_elim h
                                      obtain ⟨x12, e12, h⟩ := vP_elim h
                                      obtain ⟨x13, e13, h⟩ := vI_elim h
                                      obtain ⟨x14, e14, h⟩ := vI_elim h
                                      obtain ⟨x33A, x33n, x33c, e33, h⟩ := vS_elim h
                                      obtain ⟨x34, e34, h⟩ := vI_elim h
                                      obtain ⟨x35, e35, h⟩ := vI_elim h
                                      obtain ⟨x40, e40, h⟩ := vI_elim h
                                      obtain ⟨x41, e41, h⟩ := vI_elim h
                                      refine J.sub ?_ (((((((((((((Sub.base _).upd e2).upd e6).upd e9).upd e10).upd e12).upd e13).upd e14).upd e33).upd e34).upd e35).upd e40).upd e41)
                                      clear e2 e6 e9 e10 e12 e13 e14 e33 e34 e35 e40 e41
                                      refine J_seq (fun σ w => vF (σ 2) fun x2g x2c => vS (σ 6) fun x6A x6n x6c => vI .i64 (σ 9) fun x9 => vI .i64 (σ 10) fun x10 => vP (σ 12) fun x12 => vI .i64 (σ 14) fun x14 => vS (σ 33) fun x33A x33n x33c => vI .i64 (σ 34) fun x34 => vI .i64 (σ 35) fun x35 => vI .i64 (σ 40) fun x40 => vI .i64 (σ 41) fun x41 => slide_pack.p19 (slide_pack.l2 (slide_pack.l1 K k1) K k2) (slide_pack.l1 K k1) K x2g x2c x6A x6n x6c x9 x10 x12 x14 x33A x33n x33c x34 x35 x40 x41 w) ?_ ?_
                                      ·
                                        exact sh_sound _ _ _ _ (Eq.mp (by kernel_rfl) h)
                                      · intro σ w h
                                        obtain ⟨x2g, x2c, e2, h⟩ := vF_elim h
                                        obtain ⟨x6A, x6n, x6c, e6, h⟩ := vS_elim h
                                        obtain ⟨x9, e9, h⟩ := vI_elim h
                                        obtain ⟨x10, e10, h⟩ := vI_elim h
                                        obtain ⟨x12, e12, h⟩ := vP_elim h
                                        obtain ⟨x14, e14, h⟩ := vI_elim h
                                        obtain ⟨x33A, x33n, x33c, e33, h⟩ := vS_elim h
                                        obtain ⟨x34, e34, h⟩ := vI_elim h
                                        obtain ⟨x35, e35, h⟩ := vI_elim h
                                        obtain ⟨x40, e40, h⟩ := vI_elim h
                                        obtain ⟨x41, e41, h⟩ := vI_elim h
                                        refine J.sub ?_ ((((((((((((Sub.base _).upd e2).upd e6).upd e9).upd e10).upd e12).upd e14).upd e33).upd e34).upd e35).upd e40).upd e41)
                                        clear e2 e6 e9 e10 e12 e14 e33 e34 e35 e40 e41
                                        refine J_seq (fun σ w => vF (σ 2) fun x2g x2c => vS (σ 6) fun x6A x6n x6c => vI .i64 (σ 9) fun x9 => vI .i64 (σ 10) fun x10 => vP (σ 12) fun x12 => vI .i64 (σ 14) fun x14 => vI .i64 (σ 16) fun x16 => vS (σ 33) fun x33A x33n x33c => vI .i64 (σ 34) fun x34 => vI .i64 (σ 35) fun x35 => vI .i64 (σ 40) fun x40 => vI .i64 (σ 41) fun x41 => slide_pack.p20 (slide_pack.l2 (slide_pack.l1 K k1) K k2) (slide_pack.l1 K k1) K x2g x2c x6A x6n x6c x9 x10 x12 x14 x16 x33A x33n x33c x34 x35 x40 x41 w) ?_ ?_
                                        ·
                                          exact sh_sound _ _ _ _ (Eq.mp (by kernel_rfl) h)
                                        · intro σ w h
                                          obtain ⟨x2g, x2c, e2, h⟩ := vF_elim h
                                          obtain ⟨x6A, x6n, x6c, e6, h⟩ := vS_elim h
                                          obtain ⟨x9, e9, h⟩ := vI_elim h
                                          obtain ⟨x10, e10, h⟩ := vI_elim h
                                          obtain ⟨x12, e12, h⟩ := vP_elim h
                                          obtain ⟨x14, e14, h⟩ := vI_elim h
                                          obtain ⟨x16, e16, h⟩ := vI_elim h
                                          obtain ⟨x33A, x33n, x33c, e33, h⟩ := vS_elim h
                                          obtain ⟨x34, e34, h⟩ := vI_elim h
                                          obtain ⟨x35, e35, h⟩ := vI_elim h
                                          obtain ⟨x40, e40, h⟩ := vI_elim h
                                          obtain ⟨x41, e41, h⟩ := vI_elim h
                                          refine J.sub ?_ (((((((((((((Sub.base _).upd e2).upd e6).upd e9).upd e10).upd e12).upd e14).upd e16).upd e33).upd e34).upd e35).upd e40).upd e41)
                                          clear e2 e6 e9 e10 e12 e14 e16 e33 e34 e35 e40 e41
                                          refine J_seq (fun σ w => vF (σ 2) fun x2g x2c => vS (σ 6) fun x6A x6n x6c => vI .i64 (σ 9) fun x9 => vI .i64 (σ 10) fun x10 => vP (σ 12) fun x12 => vI .i64 (σ 14) fun x14 => vI .i64 (σ 16) fun x16 => vS (σ 33) fun x33A x33n x33c => vI .i64 (σ 34) fun x34 => vI .i64 (σ 35) fun x35 => vI .i64 (σ 40) fun x40 => vI .i64 (σ 41) fun x41 => slide_pack.p21 (slide_pack.l2 (slide_pack.l1 K k1) K k2) (slide_pack.l1 K k1) K x2g x2c x6A x6n x6c x9 x10 x12 x14 x16 x33A x33n x33c x34 x35 x40 x41 w) ?_ ?_
                                          ·
                                            exact sh_sound _ _ _ _ (Eq.mp (by kernel_rfl) h)
                                          · intro σ w h
                                            obtain ⟨x2g, x2c, e2, h⟩ := vF_elim h
                                            obtain ⟨x6A, x6n, x6c, e6, h⟩ := vS_elim h
                                            obtain ⟨x9, e9, h⟩ := vI_elim h
                                            obtain ⟨x10, e10, h⟩ := vI_elim h
                                            obtain ⟨x12, e12, h⟩ := vP_elim h
                                            obtain ⟨x14, e14, h⟩ := vI_elim h
                                            obtain ⟨x16, e16, h⟩ := vI_elim h
                                            obtain ⟨x33A, x33n, x33c, e33, h⟩ := vS_elim h
                                            obtain ⟨x34, e34, h⟩ := vI_elim h
                                            obtain ⟨x35, e35, h⟩ := vI_elim h
                                            obtain ⟨x40, e40, h⟩ := vI_elim h
                                            obtain ⟨x41, e41, h⟩ := vI_elim h
                                            refine J.sub ?_ (((((((((((((Sub.base _).upd e2).upd e6).upd e9).upd e10).upd e12).upd e14).upd e16).upd e33).upd e34).upd e35).upd e40).upd e41)
                                            clear e2 e6 e9 e10 e12 e14 e16 e33 e34 e35 e40 e41
                                            refine J_seq (fun σ w => vF (σ 2) fun x2g x2c => vS (σ 6) fun x6A x6n x6c => vI .i64 (σ 9) fun x9 => vI .i64 (σ 10) fun x10 => vP (σ 12) fun x12 => vS (σ 33) fun x33A x33n x33c => vI .i64 (σ 34) fun x34 => vI .i64 (σ 35) fun x35 => vI .i64 (σ 40) fun x40 => vI .i64 (σ 41) fun x41 => slide_pack.p22 (slide_pack.l2 (slide_pack.l1 K k1) K k2) (slide_pack.l1 K k1) K x2g x2c x6A x6n x6c x9 x10 x12 x33A x33n x33c x34 x35 x40 x41 w) ?_ ?_
                                            ·
                                              exact sh_sound _ _ _ _ (Eq.mp (by kernel_rfl) h)
                                            · intro σ w h
                                              obtain ⟨x2g, x2c, e2, h⟩ := vF_elim h
                                              obtain ⟨x6A, x6n, x6c, e6, h⟩ := vS_elim h
                                              obtain ⟨x9, e9, h⟩ := vI_elim h
                                              obtain ⟨x10, e10, h⟩ := vI_elim h
                                              obtain ⟨x12, e12, h⟩ := vP_elim h
                                              obtain ⟨x33A, x33n, x33c, e33, h⟩ := vS_elim h
                                              obtain ⟨x34, e34, h⟩ := vI_elim h
                                              obtain ⟨x35, e35, h⟩ := vI_elim h
                                              obtain ⟨x40, e40, h⟩ := vI_elim h
                                              obtain ⟨x41, e41, h⟩ := vI_elim h
                                              refine J.sub ?_ (((((((((((Sub.base _).upd e2).upd e6).upd e9).upd e10).upd e12).upd e33).upd e34).upd e35).upd e40).upd e41)
                                              clear e2 e6 e9 e10 e12 e33 e34 e35 e40 e41
                                              exact sh_sound _ _ _ _ (Eq.mp (by kernel_rfl) h)
                              · intro σ w h
                                obtain ⟨x2g, x2c, e2, h⟩ := vF_elim h
                                obtain ⟨x6A, x6n, x6c, e6, h⟩ := vS_elim h
                                obtain ⟨x9, e9, h⟩ := vI_elim h
                                obtain ⟨x10, e10, h⟩ := vI_elim h
                                obtain ⟨x12, e12, h⟩ := vP_elim h
                                obtain ⟨x33A, x33n, x33c, e33, h⟩ := vS_elim h
                                obtain ⟨x34, e34, h⟩ := vI_elim h
                                obtain ⟨x35, e35, h⟩ := vI_elim h
                                obtain ⟨x40, e40, h⟩ := vI_elim h
                                obtain ⟨x41, e41, h⟩ := vI_elim h
                                refine J.sub ?_ (((((((((((Sub.base _).upd e2).upd e6).upd e9).upd e10).upd e12).upd e33).upd e34).upd e35).upd e40).upd e41)
                                clear e2 e6 e9 e10 e12 e33 e34 e35 e40 e41
                                exact sh_sound _ _ _ _ (Eq.mp (by kernel_rfl) h)
                · intro σ w h
                  obtain ⟨x2g, x2c, e2, h⟩ := vF_elim h
                  obtain ⟨x6A, x6n, x6c, e6, h⟩ := vS_elim h
                  obtain ⟨x9, e9, h⟩ := vI_elim h
                  obtain ⟨x10, e10, h⟩ := vI_elim h
                  obtain ⟨x33A, x33n, x33c, e33, h⟩ := vS_elim h
                  obtain ⟨x34, e34, h⟩ := vI_elim h
                  obtain ⟨x35, e35, h⟩ := vI_elim h
                  refine J.sub ?_ ((((((((Sub.base _).upd e2).upd e6).upd e9).upd e10).upd e33).upd e34).upd e35)
                  clear e2 e6 e9 e10 e33 e34 e35
                  exact sh_sound _ _ _ _ (Eq.mp (by kernel_rfl) h)

/-! ### (*hayloft/span.Span).Page: function 28 -/
abbrev span_Span_Page.F (q0 : Option Addr) (K : Value → World → Prop) (w : World) : Prop :=
  condP q0.isNone (K (.int .i64 0) w) (∃ (a1 : Addr), q0 = some a1 ∧ ∃ (n2 : Int), w.cell? (a1.add 1) = some (.int .i64 n2) ∧ K (.int .i64 n2) w)
theorem span_Span_Page.ok {q0 : Option Addr} {K : Value → World → Prop} {w : World} (h : span_Span_Page.F q0 K w) :
    CallsE Tryd.prog 28 #[.pointer q0] w K := by
  refine calls_of_J (n := 9) (rs := [.tmp 2]) Tryd.func28 rfl rfl rfl rfl ?_
  exact sh_sound _ _ _ _ (Eq.mp (by kernel_rfl) h)

/-! ### (*hayloft/span.Span).Data: function 29 -/
abbrev span_Span_Data.p3 (K : Value → World → Prop) (x2 : Addr) (x3 : Addr) (w : World) : Prop :=
  ∃ (n34 : Int), w.cell? x3 = some (.int .i64 n34) ∧ ∃ (n35 : Int), w.cell? (x3.add 1) = some (.int .i64 n35) ∧ ∃ (n36 : Int), w.cell? (x3.add 2) = some (.int .i64 n36) ∧ ∃ (A37 : Option Addr) (m38 : Nat) (c39 : Nat), w.cell? (x3.add 3) = some (.slice A37 m38 c39) ∧ canStore w x2 ∧ wlet (w.setCell x2 (.int .i64 n34)) fun w40 => canStore w40 (x2.add 1) ∧ wlet (w40.setCell (x2.add 1) (.int .i64 n35)) fun w41 => canStore w41 (x2.add 2) ∧ wlet (w41.setCell (x2.add 2) (.int .i64 n36)) fun w42 => canStore w42 (x2.add 3) ∧ wlet (w42.setCell (x2.add 3) (.slice A37 m38 c39)) fun w43 => ∃ (n44 : Int), w43.cell? x2 = some (.int .i64 n44) ∧ ∃ (n45 : Int), w43.cell? (x2.add 1) = some (.int .i64 n45) ∧ ∃ (n46 : Int), w43.cell? (x2.add 2) = some (.int .i64 n46) ∧ ∃ (A47 : Option Addr) (m48 : Nat) (c49 : Nat), w43.cell? (x2.add 3) = some (.slice A47 m48 c49) ∧ K (.agg #[.int .i64 n44, .int .i64 n45, .int .i64 n46, .slice A47 m48 c49]) w43
abbrev span_Span_Data.p2 (K : Value → World → Prop) (x0 : Option Addr) (x2 : Addr) (x3 : Addr) (w : World) : Prop :=
  ∃ (a29 : Addr), x0 = some a29 ∧ ∃ (n30 : Int), w.cell? (a29.add 3) = some (.int .i64 n30) ∧ condP (n30 == (7 : Int)) (∃ (a31 : Addr), x0 = some a31 ∧ ∃ (n32 : Int), w.cell? (a31.add 4) = some (.int .i64 n32) ∧ canStore w (x3.add 2) ∧ wlet (w.setCell (x3.add 2) (.int .i64 n32)) fun w33 => span_Span_Data.p3 K x2 x3 w33) (span_Span_Data.p3 K x2 x3 w)
abbrev span_Span_Data.p1 (K : Value → World → Prop) (x0 : Option Addr) (x2 : Addr) (w : World) : Prop :=
  ∃ (S12 : Array Obj → Prop), S12 w.heap ∧ ∃ (a13 : Addr), x0 = some a13 ∧ ∃ (a14 : Addr), x0 = some a14 ∧ ∃ (a15 : Addr), x0 = some a15 ∧ ∃ (n16 : Int), (∀ w' : World, S12 w'.heap → w'.cell? (a13.add 1) = some (.int .i64 n16)) ∧ ∃ (n17 : Int), (∀ w' : World, S12 w'.heap → w'.cell? (a14.add 3) = some (.int .i64 n17)) ∧ ∃ (p18 : Option Addr), (∀ w' : World, S12 w'.heap → w'.cell? a15 = some (.pointer p18)) ∧ (CallsE Tryd.prog 48 #[.pointer p18] w (fun v19 w20 => ∃ (A21 : Option Addr) (m22 : Nat) (c23 : Nat), v19 = .slice A21 m22 c23 ∧ S12 w20.heap ∧ (S12 w20.heap ∧ wlet (w20.alloc (.cells #[.int .i64 0, .int .i64 0, .int .i64 0, .slice none 0 0] 46)) fun w24 => S12 w24.heap ∧ canStore w24 (⟨w20.heap.size, 0, none⟩) ∧ wlet (w24.setCell (⟨w20.heap.size, 0, none⟩) (.int .i64 n16)) fun w25 => canStore w25 (⟨w20.heap.size, 1, none⟩) ∧ wlet (w25.setCell (⟨w20.heap.size, 1, none⟩) (.int .i64 n17)) fun w26 => canStore w26 (⟨w20.heap.size, 2, none⟩) ∧ wlet (w26.setCell (⟨w20.heap.size, 2, none⟩) (.int .i64 0)) fun w27 => canStore w27 (⟨w20.heap.size, 3, none⟩) ∧ wlet (w27.setCell (⟨w20.heap.size, 3, none⟩) (.slice A21 m22 c23)) fun w28 => span_Span_Data.p2 K x0 x2 (⟨w20.heap.size, 0, none⟩) w28) ∧ (wlet (w20.alloc (.cells #[.int .i64 0, .int .i64 0, .int .i64 0, .slice none 0 0] 46)) fun w50 => S12 w50.heap ∧ S12 w50.heap ∧ canStore w50 (⟨w20.heap.size, 0, none⟩) ∧ wlet (w50.setCell (⟨w20.heap.size, 0, none⟩) (.int .i64 n16)) fun w51 => canStore w51 (⟨w20.heap.size, 1, none⟩) ∧ wlet (w51.setCell (⟨w20.heap.size, 1, none⟩) (.int .i64 n17)) fun w52 => canStore w52 (⟨w20.heap.size, 2, none⟩) ∧ wlet (w52.setCell (⟨w20.heap.size, 2, none⟩) (.int .i64 0)) fun w53 => canStore w53 (⟨w20.heap.size, 3, none⟩) ∧ wlet (w53.setCell (⟨w20.heap.size, 3, none⟩) (.slice A21 m22 c23)) fun w54 => span_Span_Data.p2 K x0 x2 (⟨w20.heap.size, 0, none⟩) w54))) ∧ (wlet (w.alloc (.cells #[.int .i64 0, .int .i64 0, .int .i64 0, .slice none 0 0] 46)) fun w55 => S12 w55.heap ∧ CallsE Tryd.prog 48 #[.pointer p18] w55 (fun v56 w57 => ∃ (A58 : Option Addr) (m59 : Nat) (c60 : Nat), v56 = .slice A58 m59 c60 ∧ S12 w57.heap ∧ S12 w57.heap ∧ canStore w57 (⟨w.heap.size, 0, none⟩) ∧ wlet (w57.setCell (⟨w.heap.size, 0, none⟩) (.int .i64 n16)) fun w61 => canStore w61 (⟨w.heap.size, 1, none⟩) ∧ wlet (w61.setCell (⟨w.heap.size, 1, none⟩) (.int .i64 n17)) fun w62 => canStore w62 (⟨w.heap.size, 2, none⟩) ∧ wlet (w62.setCell (⟨w.heap.size, 2, none⟩) (.int .i64 0)) fun w63 => canStore w63 (⟨w.heap.size, 3, none⟩) ∧ wlet (w63.setCell (⟨w.heap.size, 3, none⟩) (.slice A58 m59 c60)) fun w64 => span_Span_Data.p2 K x0 x2 (⟨w.heap.size, 0, none⟩) w64))
abbrev span_Span_Data.p0 (K : Value → World → Prop) (x0 : Option Addr) (x2 : Addr) (w : World) : Prop :=
  condP x0.isNone (canStore w x2 ∧ wlet (w.setCell x2 (.int .i64 0)) fun w2 => canStore w2 (x2.add 1) ∧ wlet (w2.setCell (x2.add 1) (.int .i64 0)) fun w3 => canStore w3 (x2.add 2) ∧ wlet (w3.setCell (x2.add 2) (.int .i64 0)) fun w4 => canStore w4 (x2.add 3) ∧ wlet (w4.setCell (x2.add 3) (.slice none 0 0)) fun w5 => ∃ (n6 : Int), w5.cell? x2 = some (.int .i64 n6) ∧ ∃ (n7 : Int), w5.cell? (x2.add 1) = some (.int .i64 n7) ∧ ∃ (n8 : Int), w5.cell? (x2.add 2) = some (.int .i64 n8) ∧ ∃ (A9 : Option Addr) (m10 : Nat) (c11 : Nat), w5.cell? (x2.add 3) = some (.slice A9 m10 c11) ∧ K (.agg #[.int .i64 n6, .int .i64 n7, .int .i64 n8, .slice A9 m10 c11]) w5) (span_Span_Data.p1 K x0 x2 w)
abbrev span_Span_Data.F (q0 : Option Addr) (K : Value → World → Prop) (w : World) : Prop :=
  wlet (w.alloc (.cells #[.int .i64 0, .int .i64 0, .int .i64 0, .slice none 0 0] 46)) fun w1 => span_Span_Data.p0 K q0 (⟨w.heap.size, 0, none⟩) w1
theorem span_Span_Data.ok {q0 : Option Addr} {K : Value → World → Prop} {w : World} (h : span_Span_Data.F q0 K w) :
    CallsE Tryd.prog 29 #[.pointer q0] w K := by
  refine calls_of_J (n := 33) (rs := [.cell 2 46]) Tryd.func29 rfl rfl rfl rfl ?_
  refine J_seq (fun σ w => vP (σ 0) fun x0 => vPa (σ 2) fun x2 => span_Span_Data.p0 K x0 x2 w) ?_ ?_
  ·
    exact sh_sound _ _ _ _ (Eq.mp (by kernel_rfl) h)
  · intro σ w h
    obtain ⟨x0, e0, h⟩ := vP_elim h
    obtain ⟨x2, e2, h⟩ := vPa_elim h
    refine J.sub ?_ (((Sub.base _).upd e0).upd e2)
    clear e0 e2
    refine J_seq (fun σ w => vP (σ 0) fun x0 => vPa (σ 2) fun x2 => span_Span_Data.p1 K x0 x2 w) ?_ ?_
    ·
      exact sh_sound _ _ _ _ (Eq.mp (by kernel_rfl) h)
    · intro σ w h
      obtain ⟨x0, e0, h⟩ := vP_elim h
      obtain ⟨x2, e2, h⟩ := vPa_elim h
      refine J.sub ?_ (((Sub.base _).upd e0).upd e2)
      clear e0 e2
      refine J_seq (fun σ w => vP (σ 0) fun x0 => vPa (σ 2) fun x2 => vPa (σ 3) fun x3 => span_Span_Data.p2 K x0 x2 x3 w) ?_ ?_
      ·
        exact J_heldT [16] (.step 0 0 (.step 1 0 (.step 2 0 (.step 4 0 (.step 5 0 (.step 6 0 (.step 8 0 (.step 9 0 (.step 10 0 (.step 11 0 (.step 3 1 (.step 7 1 (.step 12 1 (.fork 13 (.fork 14 (.step 15 2 (.step 16 3 .done)) 15 (.step 14 2 (.step 16 3 .done))) 15 (.step 13 2 (.step 14 2 (.step 16 3 .done))))))))))))))))) (by kernel_rfl) (Eq.mp (by kernel_rfl) h)
      · intro σ w h
        obtain ⟨x0, e0, h⟩ := vP_elim h
        obtain ⟨x2, e2, h⟩ := vPa_elim h
        obtain ⟨x3, e3, h⟩ := vPa_elim h
        refine J.sub ?_ ((((Sub.base _).upd e0).upd e2).upd e3)
        clear e0 e2 e3
        refine J_seq (fun σ w => vPa (σ 2) fun x2 => vPa (σ 3) fun x3 => span_Span_Data.p3 K x2 x3 w) ?_ ?_
        ·
          exact sh_sound _ _ _ _ (Eq.mp (by kernel_rfl) h)
        · intro σ w h
          obtain ⟨x2, e2, h⟩ := vPa_elim h
          obtain ⟨x3, e3, h⟩ := vPa_elim h
          refine J.sub ?_ (((Sub.base _).upd e2).upd e3)
          clear e2 e3
          exact sh_sound _ _ _ _ (Eq.mp (by kernel_rfl) h)

end Go.Proofs.YtklmaeefnmcmlaaDoor.F
