/-
  Printed by a program: for each Go function a proposition that says what it comes to, and the proof that the code comes to it. No condition beyond what each theorem states.
-/
import Derived.Test.YtogmnhdadggnbaaDoorFa
set_option linter.unusedVariables false
set_option maxRecDepth 100000
namespace Go.Proofs.YtogmnhdadggnbaaDoor.F
open Go Go.RowKit Go.Proofs.YtogmnhdadggnbaaDoor Go.Proofs.YtogmnhdadggnbaaDoor.Sh

/-! ### hayloft/reloc.Right: function 36 -/
abbrev reloc_Right.p9 (L0 : Int → Int → Option Addr → Nat → Nat → Int → Int → World → Prop) (K : Value → World → Prop) (x1 : Int) (x5 : Int) (x11A : Option Addr) (x11n : Nat) (x11c : Nat) (x12 : Int) (x13 : Int) (w : World) : Prop :=
  L0 x1 x5 x11A x11n x11c x12 (IntKind.wrap .i64 (x13 + (1 : Int))) w
abbrev reloc_Right.p8 (L0 : Int → Int → Option Addr → Nat → Nat → Int → Int → World → Prop) (K : Value → World → Prop) (x1 : Int) (x7 : Int) (x11A : Option Addr) (x11n : Nat) (x11c : Nat) (x12 : Int) (x13 : Int) (w : World) : Prop :=
  reloc_Right.p9 L0 K x1 (IntKind.wrap .i64 (x7 + (8 : Int))) x11A x11n x11c x12 x13 w
abbrev reloc_Right.p7 (L0 : Int → Int → Option Addr → Nat → Nat → Int → Int → World → Prop) (K : Value → World → Prop) (x1 : Int) (x7 : Int) (x11A : Option Addr) (x11n : Nat) (x11c : Nat) (x12 : Int) (x13 : Int) (x31 : Bool) (w : World) : Prop :=
  condP x31 (K (.bool false) w) (reloc_Right.p8 L0 K x1 x7 x11A x11n x11c x12 x13 w)
abbrev reloc_Right.p6 (L0 : Int → Int → Option Addr → Nat → Nat → Int → Int → World → Prop) (K : Value → World → Prop) (x1 : Int) (x5 : Int) (x7 : Int) (x11A : Option Addr) (x11n : Nat) (x11c : Nat) (x12 : Int) (x13 : Int) (w : World) : Prop :=
  condP (decide (x7 < x5)) (reloc_Right.p7 L0 K x1 x7 x11A x11n x11c x12 x13 true w) ((8 : Int) ≠ 0 ∧ condP ((Int.tmod x7 8) != (0 : Int)) (reloc_Right.p7 L0 K x1 x7 x11A x11n x11c x12 x13 true w) (reloc_Right.p7 L0 K x1 x7 x11A x11n x11c x12 x13 (decide ((IntKind.wrap .i64 ((imax 0 x1) - (8 : Int))) < x7)) w))
abbrev reloc_Right.p5 (L0 : Int → Int → Option Addr → Nat → Nat → Int → Int → World → Prop) (K : Value → World → Prop) (x1 : Int) (x5 : Int) (x11A : Option Addr) (x11n : Nat) (x11c : Nat) (x12 : Int) (x13 : Int) (w : World) : Prop :=
  (0 ≤ x13 ∧ x13 < ((x11n : Nat) : Int)) ∧ ∃ (a1 : Addr), x11A = some a1 ∧ ∃ (n2 : Int), w.cell? (a1.add x13.toNat) = some (.int .i64 n2) ∧ reloc_Right.p6 L0 K x1 x5 n2 x11A x11n x11c x12 x13 w
abbrev reloc_Right.p10 (K : Value → World → Prop) (w : World) : Prop :=
  K (.bool true) w
abbrev reloc_Right.p4 (L0 : Int → Int → Option Addr → Nat → Nat → Int → Int → World → Prop) (K : Value → World → Prop) (x1 : Int) (x5 : Int) (x11A : Option Addr) (x11n : Nat) (x11c : Nat) (x12 : Int) (x13 : Int) (x14 : Bool) (w : World) : Prop :=
  condP x14 (reloc_Right.p5 L0 K x1 x5 x11A x11n x11c x12 x13 w) (reloc_Right.p10 K w)
abbrev reloc_Right.b0 (L0 : Int → Int → Option Addr → Nat → Nat → Int → Int → World → Prop) (K : Value → World → Prop) (x1 : Int) (x5 : Int) (x11A : Option Addr) (x11n : Nat) (x11c : Nat) (x12 : Int) (x13 : Int) (w : World) : Prop :=
  reloc_Right.p4 L0 K x1 x5 x11A x11n x11c x12 x13 (decide (x13 < x12)) w
def reloc_Right.l0 (K : Value → World → Prop) (k : Nat) : Int → Int → Option Addr → Nat → Nat → Int → Int → World → Prop :=
  Nat.rec (motive := fun _ => Int → Int → Option Addr → Nat → Nat → Int → Int → World → Prop) (fun _ _ _ _ _ _ _ _ => False) (fun _ ih => reloc_Right.b0 ih K) k
theorem reloc_Right.l0_succ (K : Value → World → Prop) (k : Nat) (x1 : Int) (x5 : Int) (x11A : Option Addr) (x11n : Nat) (x11c : Nat) (x12 : Int) (x13 : Int) (w : World) : reloc_Right.l0 K (k + 1) x1 x5 x11A x11n x11c x12 x13 w = reloc_Right.b0 (reloc_Right.l0 K k) K x1 x5 x11A x11n x11c x12 x13 w := rfl
abbrev reloc_Right.p3 (K : Value → World → Prop) (x1 : Int) (x5 : Int) (x11A : Option Addr) (x11n : Nat) (x11c : Nat) (x12 : Int) (x13 : Int) (w : World) : Prop :=
  ∃ k, reloc_Right.l0 K k x1 x5 x11A x11n x11c x12 x13 w
abbrev reloc_Right.p2 (K : Value → World → Prop) (x0A : Option Addr) (x0n : Nat) (x0c : Nat) (x1 : Int) (x5 : Int) (w : World) : Prop :=
  reloc_Right.p3 K x1 x5 x0A x0n x0c ((x0n : Nat) : Int) 0 w
abbrev reloc_Right.p1 (K : Value → World → Prop) (x0A : Option Addr) (x0n : Nat) (x0c : Nat) (x1 : Int) (w : World) : Prop :=
  reloc_Right.p2 K x0A x0n x0c x1 0 w
abbrev reloc_Right.p0 (K : Value → World → Prop) (x0A : Option Addr) (x0n : Nat) (x0c : Nat) (x1 : Int) (w : World) : Prop :=
  condP (decide ((8192 : Int) < ((x0n : Nat) : Int))) (K (.bool false) w) (reloc_Right.p1 K x0A x0n x0c x1 w)
abbrev reloc_Right.F (q0A : Option Addr) (q0n : Nat) (q0c : Nat) (q1 : Int) (K : Value → World → Prop) (w : World) : Prop :=
  reloc_Right.p0 K q0A q0n q0c q1 w
theorem reloc_Right.ok {q0A : Option Addr} {q0n : Nat} {q0c : Nat} {q1 : Int} {K : Value → World → Prop} {w : World} (h : reloc_Right.F q0A q0n q0c q1 K w) :
    CallsE Tryd.prog 36 #[.slice q0A q0n q0c, .int .i64 q1] w K := by
  refine calls_of_J (n := 35) (rs := [.tmp 4]) Tryd.func36 rfl rfl rfl rfl ?_
  refine J_seq (fun σ w => vS (σ 0) fun x0A x0n x0c => vI .i64 (σ 1) fun x1 => reloc_Right.p0 K x0A x0n x0c x1 w) ?_ ?_
  ·
    exact sh_sound _ _ _ _ (Eq.mp (by kernel_rfl) h)
  · intro σ w h
    obtain ⟨x0A, x0n, x0c, e0, h⟩ := vS_elim h
    obtain ⟨x1, e1, h⟩ := vI_elim h
    refine J.sub ?_ (((Sub.base _).upd e0).upd e1)
    clear e0 e1
    refine J_seq (fun σ w => vS (σ 0) fun x0A x0n x0c => vI .i64 (σ 1) fun x1 => reloc_Right.p1 K x0A x0n x0c x1 w) ?_ ?_
    ·
      exact sh_sound _ _ _ _ (Eq.mp (by kernel_rfl) h)
    · intro σ w h
      obtain ⟨x0A, x0n, x0c, e0, h⟩ := vS_elim h
      obtain ⟨x1, e1, h⟩ := vI_elim h
      refine J.sub ?_ (((Sub.base _).upd e0).upd e1)
      clear e0 e1
      refine J_seq (fun σ w => vS (σ 0) fun x0A x0n x0c => vI .i64 (σ 1) fun x1 => vI .i64 (σ 5) fun x5 => reloc_Right.p2 K x0A x0n x0c x1 x5 w) ?_ ?_
      ·
        exact sh_sound _ _ _ _ (Eq.mp (by kernel_rfl) h)
      · intro σ w h
        obtain ⟨x0A, x0n, x0c, e0, h⟩ := vS_elim h
        obtain ⟨x1, e1, h⟩ := vI_elim h
        obtain ⟨x5, e5, h⟩ := vI_elim h
        refine J.sub ?_ ((((Sub.base _).upd e0).upd e1).upd e5)
        clear e0 e1 e5
        refine J_seq (fun σ w => reloc_Right.p10 K w) ?_ ?_
        ·
          refine J_seq (fun σ w => vI .i64 (σ 1) fun x1 => vI .i64 (σ 5) fun x5 => vS (σ 11) fun x11A x11n x11c => vI .i64 (σ 12) fun x12 => vI .i64 (σ 13) fun x13 => reloc_Right.p3 K x1 x5 x11A x11n x11c x12 x13 w) ?_ ?_
          ·
            exact sh_sound _ _ _ _ (Eq.mp (by kernel_rfl) h)
          · intro σ w h
            obtain ⟨x1, e1, h⟩ := vI_elim h
            obtain ⟨x5, e5, h⟩ := vI_elim h
            obtain ⟨x11A, x11n, x11c, e11, h⟩ := vS_elim h
            obtain ⟨x12, e12, h⟩ := vI_elim h
            obtain ⟨x13, e13, h⟩ := vI_elim h
            refine J.sub ?_ ((((((Sub.base _).upd e1).upd e5).upd e11).upd e12).upd e13)
            clear e1 e5 e11 e12 e13
            refine J_block ?_
            refine J_loop (fun k σ w => vI .i64 (σ 1) fun x1 => vI .i64 (σ 5) fun x5 => vS (σ 11) fun x11A x11n x11c => vI .i64 (σ 12) fun x12 => vI .i64 (σ 13) fun x13 => reloc_Right.l0 K k x1 x5 x11A x11n x11c x12 x13 w) (Eq.mp (by kernel_rfl) h) ?_ ?_
            · intro σ w h
              obtain ⟨x1, e1, h⟩ := vI_elim h
              obtain ⟨x5, e5, h⟩ := vI_elim h
              obtain ⟨x11A, x11n, x11c, e11, h⟩ := vS_elim h
              obtain ⟨x12, e12, h⟩ := vI_elim h
              obtain ⟨x13, e13, h⟩ := vI_elim h
              exact h
            · intro k0 σ w h
              obtain ⟨x1, e1, h⟩ := vI_elim h
              obtain ⟨x5, e5, h⟩ := vI_elim h
              obtain ⟨x11A, x11n, x11c, e11, h⟩ := vS_elim h
              obtain ⟨x12, e12, h⟩ := vI_elim h
              obtain ⟨x13, e13, h⟩ := vI_elim h
              refine J.sub ?_ ((((((Sub.base _).upd e1).upd e5).upd e11).upd e12).upd e13)
              clear e1 e5 e11 e12 e13
              refine J_seq (fun σ w => vI .i64 (σ 1) fun x1 => vI .i64 (σ 5) fun x5 => vS (σ 11) fun x11A x11n x11c => vI .i64 (σ 12) fun x12 => vI .i64 (σ 13) fun x13 => vB (σ 14) fun x14 => reloc_Right.p4 (reloc_Right.l0 K k0) K x1 x5 x11A x11n x11c x12 x13 x14 w) ?_ ?_
              ·
                exact sh_sound _ _ _ _ (Eq.mp (by kernel_rfl) h)
              · intro σ w h
                obtain ⟨x1, e1, h⟩ := vI_elim h
                obtain ⟨x5, e5, h⟩ := vI_elim h
                obtain ⟨x11A, x11n, x11c, e11, h⟩ := vS_elim h
                obtain ⟨x12, e12, h⟩ := vI_elim h
                obtain ⟨x13, e13, h⟩ := vI_elim h
                obtain ⟨x14, e14, h⟩ := vB_elim h
                refine J.sub ?_ (((((((Sub.base _).upd e1).upd e5).upd e11).upd e12).upd e13).upd e14)
                clear e1 e5 e11 e12 e13 e14
                refine J_seq (fun σ w => vI .i64 (σ 1) fun x1 => vI .i64 (σ 5) fun x5 => vS (σ 11) fun x11A x11n x11c => vI .i64 (σ 12) fun x12 => vI .i64 (σ 13) fun x13 => reloc_Right.p5 (reloc_Right.l0 K k0) K x1 x5 x11A x11n x11c x12 x13 w) ?_ ?_
                ·
                  exact sh_sound _ _ _ _ (Eq.mp (by kernel_rfl) h)
                · intro σ w h
                  obtain ⟨x1, e1, h⟩ := vI_elim h
                  obtain ⟨x5, e5, h⟩ := vI_elim h
                  obtain ⟨x11A, x11n, x11c, e11, h⟩ := vS_elim h
                  obtain ⟨x12, e12, h⟩ := vI_elim h
                  obtain ⟨x13, e13, h⟩ := vI_elim h
                  refine J.sub ?_ ((((((Sub.base _).upd e1).upd e5).upd e11).upd e12).upd e13)
                  clear e1 e5 e11 e12 e13
                  refine J_seq (fun σ w => vI .i64 (σ 1) fun x1 => vI .i64 (σ 5) fun x5 => vS (σ 11) fun x11A x11n x11c => vI .i64 (σ 12) fun x12 => vI .i64 (σ 13) fun x13 => reloc_Right.p9 (reloc_Right.l0 K k0) K x1 x5 x11A x11n x11c x12 x13 w) ?_ ?_
                  ·
                    refine J_block ?_
                    refine J_seq (fun σ w => vI .i64 (σ 1) fun x1 => vI .i64 (σ 5) fun x5 => vI .i64 (σ 7) fun x7 => vS (σ 11) fun x11A x11n x11c => vI .i64 (σ 12) fun x12 => vI .i64 (σ 13) fun x13 => reloc_Right.p6 (reloc_Right.l0 K k0) K x1 x5 x7 x11A x11n x11c x12 x13 w) ?_ ?_
                    ·
                      exact sh_sound _ _ _ _ (Eq.mp (by kernel_rfl) h)
                    · intro σ w h
                      obtain ⟨x1, e1, h⟩ := vI_elim h
                      obtain ⟨x5, e5, h⟩ := vI_elim h
                      obtain ⟨x7, e7, h⟩ := vI_elim h
                      obtain ⟨x11A, x11n, x11c, e11, h⟩ := vS_elim h
                      obtain ⟨x12, e12, h⟩ := vI_elim h
                      obtain ⟨x13, e13, h⟩ := vI_elim h
                      refine J.sub ?_ (((((((Sub.base _).upd e1).upd e5).upd e7).upd e11).upd e12).upd e13)
                      clear e1 e5 e7 e11 e12 e13
                      refine J_seq (fun σ w => vI .i64 (σ 1) fun x1 => vI .i64 (σ 7) fun x7 => vS (σ 11) fun x11A x11n x11c => vI .i64 (σ 12) fun x12 => vI .i64 (σ 13) fun x13 => reloc_Right.p8 (reloc_Right.l0 K k0) K x1 x7 x11A x11n x11c x12 x13 w) ?_ ?_
                      ·
                        refine J_seq (fun σ w => vI .i64 (σ 1) fun x1 => vI .i64 (σ 7) fun x7 => vS (σ 11) fun x11A x11n x11c => vI .i64 (σ 12) fun x12 => vI .i64 (σ 13) fun x13 => vB (σ 31) fun x31 => reloc_Right.p7 (reloc_Right.l0 K k0) K x1 x7 x11A x11n x11c x12 x13 x31 w) ?_ ?_
                        ·
                          exact sh_sound _ _ _ _ (Eq.mp (by kernel_rfl) h)
                        · intro σ w h
                          obtain ⟨x1, e1, h⟩ := vI_elim h
                          obtain ⟨x7, e7, h⟩ := vI_elim h
                          obtain ⟨x11A, x11n, x11c, e11, h⟩ := vS_elim h
                          obtain ⟨x12, e12, h⟩ := vI_elim h
                          obtain ⟨x13, e13, h⟩ := vI_elim h
                          obtain ⟨x31, e31, h⟩ := vB_elim h
                          refine J.sub ?_ (((((((Sub.base _).upd e1).upd e7).upd e11).upd e12).upd e13).upd e31)
                          clear e1 e7 e11 e12 e13 e31
                          exact sh_sound _ _ _ _ (Eq.mp (by kernel_rfl) h)
                      · intro σ w h
                        obtain ⟨x1, e1, h⟩ := vI_elim h
                        obtain ⟨x7, e7, h⟩ := vI_elim h
                        obtain ⟨x11A, x11n, x11c, e11, h⟩ := vS_elim h
                        obtain ⟨x12, e12, h⟩ := vI_elim h
                        obtain ⟨x13, e13, h⟩ := vI_elim h
                        refine J.sub ?_ ((((((Sub.base _).upd e1).upd e7).upd e11).upd e12).upd e13)
                        clear e1 e7 e11 e12 e13
                        exact sh_sound _ _ _ _ (Eq.mp (by kernel_rfl) h)
                  · intro σ w h
                    obtain ⟨x1, e1, h⟩ := vI_elim h
                    obtain ⟨x5, e5, h⟩ := vI_elim h
                    obtain ⟨x11A, x11n, x11c, e11, h⟩ := vS_elim h
                    obtain ⟨x12, e12, h⟩ := vI_elim h
                    obtain ⟨x13, e13, h⟩ := vI_elim h
                    refine J.sub ?_ ((((((Sub.base _).upd e1).upd e5).upd e11).upd e12).upd e13)
                    clear e1 e5 e11 e12 e13
                    exact sh_sound _ _ _ _ (Eq.mp (by kernel_rfl) h)
        · intro σ w h
          refine J.sub ?_ (Sub.base _)
          exact sh_sound _ _ _ _ (Eq.mp (by kernel_rfl) h)

/-! ### hayloft/arena.Good: function 37 -/
abbrev arena_Good.p1 (K : Value → World → Prop) (x2 : Bool) (w : World) : Prop :=
  K (.bool x2) w
abbrev arena_Good.p0 (K : Value → World → Prop) (x0 : Int) (w : World) : Prop :=
  condP (decide ((256 : Int) ≤ x0)) (condP (decide (x0 ≤ (1099511627776 : Int))) ((256 : Int) ≠ 0 ∧ arena_Good.p1 K ((Int.tmod x0 256) == (0 : Int)) w) (arena_Good.p1 K false w)) (arena_Good.p1 K false w)
abbrev arena_Good.F (q0 : Int) (K : Value → World → Prop) (w : World) : Prop :=
  arena_Good.p0 K q0 w
theorem arena_Good.ok {q0 : Int} {K : Value → World → Prop} {w : World} (h : arena_Good.F q0 K w) :
    CallsE Tryd.prog 37 #[.int .i64 q0] w K := by
  refine calls_of_J (n := 14) (rs := [.tmp 2]) Tryd.func37 rfl rfl rfl rfl ?_
  refine J_seq (fun σ w => vI .i64 (σ 0) fun x0 => arena_Good.p0 K x0 w) ?_ ?_
  ·
    exact sh_sound _ _ _ _ (Eq.mp (by kernel_rfl) h)
  · intro σ w h
    obtain ⟨x0, e0, h⟩ := vI_elim h
    refine J.sub ?_ ((Sub.base _).upd e0)
    clear e0
    refine J_seq (fun σ w => vB (σ 2) fun x2 => arena_Good.p1 K x2 w) ?_ ?_
    ·
      exact sh_sound _ _ _ _ (Eq.mp (by kernel_rfl) h)
    · intro σ w h
      obtain ⟨x2, e2, h⟩ := vB_elim h
      refine J.sub ?_ ((Sub.base _).upd e2)
      clear e2
      exact sh_sound _ _ _ _ (Eq.mp (by kernel_rfl) h)

/-! ### hayloft/hayloftref10.Of: function 38 -/
abbrev ref10_Of.p9 (L0 : Addr → Option Addr → Option Addr → Nat → Nat → Int → Int → World → Prop) (K : Value → World → Prop) (x1 : Addr) (x4 : Option Addr) (x22A : Option Addr) (x22n : Nat) (x22c : Nat) (x23 : Int) (x24 : Int) (w : World) : Prop :=
  L0 x1 x4 x22A x22n x22c x23 (IntKind.wrap .i64 (x24 + (1 : Int))) w
abbrev ref10_Of.p8 (L0 : Addr → Option Addr → Option Addr → Nat → Nat → Int → Int → World → Prop) (K : Value → World → Prop) (x1 : Addr) (x4 : Option Addr) (x7 : Int) (x22A : Option Addr) (x22n : Nat) (x22c : Nat) (x23 : Int) (x24 : Int) (w : World) : Prop :=
  ∃ (a14 : Addr), x4 = some a14 ∧ ∃ (A15 : Option Addr) (m16 : Nat) (c17 : Nat), w.cell? (a14.add 3) = some (.slice A15 m16 c17) ∧ (0 ≤ x7 ∧ x7 < ((m16 : Nat) : Int)) ∧ ∃ (a18 : Addr), A15 = some a18 ∧ canStore w (a18.add x7.toNat) ∧ wlet (w.setCell (a18.add x7.toNat) (.bool true)) fun w19 => ref10_Of.p9 L0 K x1 x4 x22A x22n x22c x23 x24 w19
abbrev ref10_Of.p7 (L0 : Addr → Option Addr → Option Addr → Nat → Nat → Int → Int → World → Prop) (K : Value → World → Prop) (x1 : Addr) (x4 : Option Addr) (x7 : Int) (x22A : Option Addr) (x22n : Nat) (x22c : Nat) (x23 : Int) (x24 : Int) (x53 : Bool) (w : World) : Prop :=
  condP x53 (K (.tuple #[.pointer none, .int .i64 4]) w) (ref10_Of.p8 L0 K x1 x4 x7 x22A x22n x22c x23 x24 w)
abbrev ref10_Of.p6 (L0 : Addr → Option Addr → Option Addr → Nat → Nat → Int → Int → World → Prop) (K : Value → World → Prop) (x1 : Addr) (x4 : Option Addr) (x6 : Int) (x7 : Int) (x22A : Option Addr) (x22n : Nat) (x22c : Nat) (x23 : Int) (x24 : Int) (w : World) : Prop :=
  condP (decide (x7 < (0 : Int))) (ref10_Of.p7 L0 K x1 x4 x7 x22A x22n x22c x23 x24 true w) (∃ (a20 : Addr), x4 = some a20 ∧ ∃ (A21 : Option Addr) (m22 : Nat) (c23 : Nat), w.cell? (a20.add 3) = some (.slice A21 m22 c23) ∧ condP (decide (((m22 : Nat) : Int) ≤ x7)) (ref10_Of.p7 L0 K x1 x4 x7 x22A x22n x22c x23 x24 true w) (condP (decide ((0 : Int) < x6)) (∃ (A24 : Option Addr) (m25 : Nat) (c26 : Nat), w.cell? (x1.add 3) = some (.slice A24 m25 c26) ∧ (0 ≤ (IntKind.wrap .i64 (x6 - (1 : Int))) ∧ (IntKind.wrap .i64 (x6 - (1 : Int))) < ((m25 : Nat) : Int)) ∧ ∃ (a27 : Addr), A24 = some a27 ∧ ∃ (n28 : Int), w.cell? (a27.add ((IntKind.wrap .i64 (x6 - (1 : Int))).toNat)) = some (.int .i64 n28) ∧ ref10_Of.p7 L0 K x1 x4 x7 x22A x22n x22c x23 x24 (decide (x7 ≤ n28)) w) (ref10_Of.p7 L0 K x1 x4 x7 x22A x22n x22c x23 x24 false w)))
abbrev ref10_Of.p5 (L0 : Addr → Option Addr → Option Addr → Nat → Nat → Int → Int → World → Prop) (K : Value → World → Prop) (x1 : Addr) (x4 : Option Addr) (x22A : Option Addr) (x22n : Nat) (x22c : Nat) (x23 : Int) (x24 : Int) (w : World) : Prop :=
  (0 ≤ x24 ∧ x24 < ((x22n : Nat) : Int)) ∧ ∃ (a12 : Addr), x22A = some a12 ∧ ∃ (n13 : Int), w.cell? (a12.add x24.toNat) = some (.int .i64 n13) ∧ ref10_Of.p6 L0 K x1 x4 x24 n13 x22A x22n x22c x23 x24 w
abbrev ref10_Of.p10 (K : Value → World → Prop) (x4 : Option Addr) (w : World) : Prop :=
  K (.tuple #[.pointer x4, .int .i64 0]) w
abbrev ref10_Of.p4 (L0 : Addr → Option Addr → Option Addr → Nat → Nat → Int → Int → World → Prop) (K : Value → World → Prop) (x1 : Addr) (x4 : Option Addr) (x22A : Option Addr) (x22n : Nat) (x22c : Nat) (x23 : Int) (x24 : Int) (x25 : Bool) (w : World) : Prop :=
  condP x25 (ref10_Of.p5 L0 K x1 x4 x22A x22n x22c x23 x24 w) (ref10_Of.p10 K x4 w)
abbrev ref10_Of.b0 (L0 : Addr → Option Addr → Option Addr → Nat → Nat → Int → Int → World → Prop) (K : Value → World → Prop) (x1 : Addr) (x4 : Option Addr) (x22A : Option Addr) (x22n : Nat) (x22c : Nat) (x23 : Int) (x24 : Int) (w : World) : Prop :=
  ref10_Of.p4 L0 K x1 x4 x22A x22n x22c x23 x24 (decide (x24 < x23)) w
def ref10_Of.l0 (K : Value → World → Prop) (k : Nat) : Addr → Option Addr → Option Addr → Nat → Nat → Int → Int → World → Prop :=
  Nat.rec (motive := fun _ => Addr → Option Addr → Option Addr → Nat → Nat → Int → Int → World → Prop) (fun _ _ _ _ _ _ _ _ => False) (fun _ ih => ref10_Of.b0 ih K) k
theorem ref10_Of.l0_succ (K : Value → World → Prop) (k : Nat) (x1 : Addr) (x4 : Option Addr) (x22A : Option Addr) (x22n : Nat) (x22c : Nat) (x23 : Int) (x24 : Int) (w : World) : ref10_Of.l0 K (k + 1) x1 x4 x22A x22n x22c x23 x24 w = ref10_Of.b0 (ref10_Of.l0 K k) K x1 x4 x22A x22n x22c x23 x24 w := rfl
abbrev ref10_Of.p3 (K : Value → World → Prop) (x1 : Addr) (x4 : Option Addr) (x22A : Option Addr) (x22n : Nat) (x22c : Nat) (x23 : Int) (x24 : Int) (w : World) : Prop :=
  ∃ k, ref10_Of.l0 K k x1 x4 x22A x22n x22c x23 x24 w
abbrev ref10_Of.p2 (K : Value → World → Prop) (x1 : Addr) (x4 : Option Addr) (w : World) : Prop :=
  ∃ (A9 : Option Addr) (m10 : Nat) (c11 : Nat), w.cell? (x1.add 3) = some (.slice A9 m10 c11) ∧ ref10_Of.p3 K x1 x4 A9 m10 c11 ((m10 : Nat) : Int) 0 w
abbrev ref10_Of.p1 (K : Value → World → Prop) (x1 : Addr) (x4 : Option Addr) (x5 : Int) (w : World) : Prop :=
  condP (x5 != (0 : Int)) (K (.tuple #[.pointer none, .int .i64 x5]) w) (ref10_Of.p2 K x1 x4 w)
abbrev ref10_Of.p0 (K : Value → World → Prop) (x1 : Addr) (w : World) : Prop :=
  ∃ (n2 : Int), w.cell? x1 = some (.int .i64 n2) ∧ ∃ (n3 : Int), w.cell? (x1.add 1) = some (.int .i64 n3) ∧ ∃ (n4 : Int), w.cell? (x1.add 2) = some (.int .i64 n4) ∧ CallsE Tryd.prog 53 #[.int .i64 n2, .int .i64 n3, .int .i64 n4] w (fun v5 w6 => ∃ (p7 : Option Addr) (n8 : Int), v5 = .tuple #[.pointer p7, .int .i64 n8] ∧ ref10_Of.p1 K x1 p7 n8 w6)
abbrev ref10_Of.F (q0_0 : Int) (q0_1 : Int) (q0_2 : Int) (q0_3A : Option Addr) (q0_3n : Nat) (q0_3c : Nat) (K : Value → World → Prop) (w : World) : Prop :=
  wlet (w.alloc (.cells #[.int .i64 q0_0, .int .i64 q0_1, .int .i64 q0_2, .slice q0_3A q0_3n q0_3c] 24)) fun w1 => ref10_Of.p0 K (⟨w.heap.size, 0, none⟩) w1
theorem ref10_Of.ok {q0_0 : Int} {q0_1 : Int} {q0_2 : Int} {q0_3A : Option Addr} {q0_3n : Nat} {q0_3c : Nat} {K : Value → World → Prop} {w : World} (h : ref10_Of.F q0_0 q0_1 q0_2 q0_3A q0_3n q0_3c K w) :
    CallsE Tryd.prog 38 #[.agg #[.int .i64 q0_0, .int .i64 q0_1, .int .i64 q0_2, .slice q0_3A q0_3n q0_3c]] w K := by
  refine calls_of_J (n := 62) (rs := [.tmp 2, .tmp 3]) Tryd.func38 rfl rfl rfl rfl ?_
  refine J_seq (fun σ w => vPa (σ 1) fun x1 => ref10_Of.p0 K x1 w) ?_ ?_
  ·
    exact sh_sound _ _ _ _ (Eq.mp (by kernel_rfl) h)
  · intro σ w h
    obtain ⟨x1, e1, h⟩ := vPa_elim h
    refine J.sub ?_ ((Sub.base _).upd e1)
    clear e1
    refine J_seq (fun σ w => vPa (σ 1) fun x1 => vP (σ 4) fun x4 => vI .i64 (σ 5) fun x5 => ref10_Of.p1 K x1 x4 x5 w) ?_ ?_
    ·
      exact sh_sound _ _ _ _ (Eq.mp (by kernel_rfl) h)
    · intro σ w h
      obtain ⟨x1, e1, h⟩ := vPa_elim h
      obtain ⟨x4, e4, h⟩ := vP_elim h
      obtain ⟨x5, e5, h⟩ := vI_elim h
      refine J.sub ?_ ((((Sub.base _).upd e1).upd e4).upd e5)
      clear e1 e4 e5
      refine J_seq (fun σ w => vPa (σ 1) fun x1 => vP (σ 4) fun x4 => ref10_Of.p2 K x1 x4 w) ?_ ?_
      ·
        exact sh_sound _ _ _ _ (Eq.mp (by kernel_rfl) h)
      · intro σ w h
        obtain ⟨x1, e1, h⟩ := vPa_elim h
        obtain ⟨x4, e4, h⟩ := vP_elim h
        refine J.sub ?_ (((Sub.base _).upd e1).upd e4)
        clear e1 e4
        refine J_seq (fun σ w => vP (σ 4) fun x4 => ref10_Of.p10 K x4 w) ?_ ?_
        ·
          refine J_seq (fun σ w => vPa (σ 1) fun x1 => vP (σ 4) fun x4 => vS (σ 22) fun x22A x22n x22c => vI .i64 (σ 23) fun x23 => vI .i64 (σ 24) fun x24 => ref10_Of.p3 K x1 x4 x22A x22n x22c x23 x24 w) ?_ ?_
          ·
            exact sh_sound _ _ _ _ (Eq.mp (by kernel_rfl) h)
          · intro σ w h
            obtain ⟨x1, e1, h⟩ := vPa_elim h
            obtain ⟨x4, e4, h⟩ := vP_elim h
            obtain ⟨x22A, x22n, x22c, e22, h⟩ := vS_elim h
            obtain ⟨x23, e23, h⟩ := vI_elim h
            obtain ⟨x24, e24, h⟩ := vI_elim h
            refine J.sub ?_ ((((((Sub.base _).upd e1).upd e4).upd e22).upd e23).upd e24)
            clear e1 e4 e22 e23 e24
            refine J_block ?_
            refine J_loop (fun k σ w => vPa (σ 1) fun x1 => vP (σ 4) fun x4 => vS (σ 22) fun x22A x22n x22c => vI .i64 (σ 23) fun x23 => vI .i64 (σ 24) fun x24 => ref10_Of.l0 K k x1 x4 x22A x22n x22c x23 x24 w) (Eq.mp (by kernel_rfl) h) ?_ ?_
            · intro σ w h
              obtain ⟨x1, e1, h⟩ := vPa_elim h
              obtain ⟨x4, e4, h⟩ := vP_elim h
              obtain ⟨x22A, x22n, x22c, e22, h⟩ := vS_elim h
              obtain ⟨x23, e23, h⟩ := vI_elim h
              obtain ⟨x24, e24, h⟩ := vI_elim h
              exact h
            · intro k0 σ w h
              obtain ⟨x1, e1, h⟩ := vPa_elim h
              obtain ⟨x4, e4, h⟩ := vP_elim h
              obtain ⟨x22A, x22n, x22c, e22, h⟩ := vS_elim h
              obtain ⟨x23, e23, h⟩ := vI_elim h
              obtain ⟨x24, e24, h⟩ := vI_elim h
              refine J.sub ?_ ((((((Sub.base _).upd e1).upd e4).upd e22).upd e23).upd e24)
              clear e1 e4 e22 e23 e24
              refine J_seq (fun σ w => vPa (σ 1) fun x1 => vP (σ 4) fun x4 => vS (σ 22) fun x22A x22n x22c => vI .i64 (σ 23) fun x23 => vI .i64 (σ 24) fun x24 => vB (σ 25) fun x25 => ref10_Of.p4 (ref10_Of.l0 K k0) K x1 x4 x22A x22n x22c x23 x24 x25 w) ?_ ?_
              ·
                exact sh_sound _ _ _ _ (Eq.mp (by kernel_rfl) h)
              · intro σ w h
                obtain ⟨x1, e1, h⟩ := vPa_elim h
                obtain ⟨x4, e4, h⟩ := vP_elim h
                obtain ⟨x22A, x22n, x22c, e22, h⟩ := vS_elim h
                obtain ⟨x23, e23, h⟩ := vI_elim h
                obtain ⟨x24, e24, h⟩ := vI_elim h
                obtain ⟨x25, e25, h⟩ := vB_elim h
                refine J.sub ?_ (((((((Sub.base _).upd e1).upd e4).upd e22).upd e23).upd e24).upd e25)
                clear e1 e4 e22 e23 e24 e25
                refine J_seq (fun σ w => vPa (σ 1) fun x1 => vP (σ 4) fun x4 => vS (σ 22) fun x22A x22n x22c => vI .i64 (σ 23) fun x23 => vI .i64 (σ 24) fun x24 => ref10_Of.p5 (ref10_Of.l0 K k0) K x1 x4 x22A x22n x22c x23 x24 w) ?_ ?_
                ·
                  exact sh_sound _ _ _ _ (Eq.mp (by kernel_rfl) h)
                · intro σ w h
                  obtain ⟨x1, e1, h⟩ := vPa_elim h
                  obtain ⟨x4, e4, h⟩ := vP_elim h
                  obtain ⟨x22A, x22n, x22c, e22, h⟩ := vS_elim h
                  obtain ⟨x23, e23, h⟩ := vI_elim h
                  obtain ⟨x24, e24, h⟩ := vI_elim h
                  refine J.sub ?_ ((((((Sub.base _).upd e1).upd e4).upd e22).upd e23).upd e24)
                  clear e1 e4 e22 e23 e24
                  refine J_seq (fun σ w => vPa (σ 1) fun x1 => vP (σ 4) fun x4 => vS (σ 22) fun x22A x22n x22c => vI .i64 (σ 23) fun x23 => vI .i64 (σ 24) fun x24 => ref10_Of.p9 (ref10_Of.l0 K k0) K x1 x4 x22A x22n x22c x23 x24 w) ?_ ?_
                  ·
                    refine J_block ?_
                    refine J_seq (fun σ w => vPa (σ 1) fun x1 => vP (σ 4) fun x4 => vI .i64 (σ 6) fun x6 => vI .i64 (σ 7) fun x7 => vS (σ 22) fun x22A x22n x22c => vI .i64 (σ 23) fun x23 => vI .i64 (σ 24) fun x24 => ref10_Of.p6 (ref10_Of.l0 K k0) K x1 x4 x6 x7 x22A x22n x22c x23 x24 w) ?_ ?_
                    ·
                      exact sh_sound _ _ _ _ (Eq.mp (by kernel_rfl) h)
                    · intro σ w h
                      obtain ⟨x1, e1, h⟩ := vPa_elim h
                      obtain ⟨x4, e4, h⟩ := vP_elim h
                      obtain ⟨x6, e6, h⟩ := vI_elim h
                      obtain ⟨x7, e7, h⟩ := vI_elim h
                      obtain ⟨x22A, x22n, x22c, e22, h⟩ := vS_elim h
                      obtain ⟨x23, e23, h⟩ := vI_elim h
                      obtain ⟨x24, e24, h⟩ := vI_elim h
                      refine J.sub ?_ ((((((((Sub.base _).upd e1).upd e4).upd e6).upd e7).upd e22).upd e23).upd e24)
                      clear e1 e4 e6 e7 e22 e23 e24
                      refine J_seq (fun σ w => vPa (σ 1) fun x1 => vP (σ 4) fun x4 => vI .i64 (σ 7) fun x7 => vS (σ 22) fun x22A x22n x22c => vI .i64 (σ 23) fun x23 => vI .i64 (σ 24) fun x24 => ref10_Of.p8 (ref10_Of.l0 K k0) K x1 x4 x7 x22A x22n x22c x23 x24 w) ?_ ?_
                      ·
                        refine J_seq (fun σ w => vPa (σ 1) fun x1 => vP (σ 4) fun x4 => vI .i64 (σ 7) fun x7 => vS (σ 22) fun x22A x22n x22c => vI .i64 (σ 23) fun x23 => vI .i64 (σ 24) fun x24 => vB (σ 53) fun x53 => ref10_Of.p7 (ref10_Of.l0 K k0) K x1 x4 x7 x22A x22n x22c x23 x24 x53 w) ?_ ?_
                        ·
                          exact sh_sound _ _ _ _ (Eq.mp (by kernel_rfl) h)
                        · intro σ w h
                          obtain ⟨x1, e1, h⟩ := vPa_elim h
                          obtain ⟨x4, e4, h⟩ := vP_elim h
                          obtain ⟨x7, e7, h⟩ := vI_elim h
                          obtain ⟨x22A, x22n, x22c, e22, h⟩ := vS_elim h
                          obtain ⟨x23, e23, h⟩ := vI_elim h
                          obtain ⟨x24, e24, h⟩ := vI_elim h
                          obtain ⟨x53, e53, h⟩ := vB_elim h
                          refine J.sub ?_ ((((((((Sub.base _).upd e1).upd e4).upd e7).upd e22).upd e23).upd e24).upd e53)
                          clear e1 e4 e7 e22 e23 e24 e53
                          exact sh_sound _ _ _ _ (Eq.mp (by kernel_rfl) h)
                      · intro σ w h
                        obtain ⟨x1, e1, h⟩ := vPa_elim h
                        obtain ⟨x4, e4, h⟩ := vP_elim h
                        obtain ⟨x7, e7, h⟩ := vI_elim h
                        obtain ⟨x22A, x22n, x22c, e22, h⟩ := vS_elim h
                        obtain ⟨x23, e23, h⟩ := vI_elim h
                        obtain ⟨x24, e24, h⟩ := vI_elim h
                        refine J.sub ?_ (((((((Sub.base _).upd e1).upd e4).upd e7).upd e22).upd e23).upd e24)
                        clear e1 e4 e7 e22 e23 e24
                        exact sh_sound _ _ _ _ (Eq.mp (by kernel_rfl) h)
                  · intro σ w h
                    obtain ⟨x1, e1, h⟩ := vPa_elim h
                    obtain ⟨x4, e4, h⟩ := vP_elim h
                    obtain ⟨x22A, x22n, x22c, e22, h⟩ := vS_elim h
                    obtain ⟨x23, e23, h⟩ := vI_elim h
                    obtain ⟨x24, e24, h⟩ := vI_elim h
                    refine J.sub ?_ ((((((Sub.base _).upd e1).upd e4).upd e22).upd e23).upd e24)
                    clear e1 e4 e22 e23 e24
                    exact sh_sound _ _ _ _ (Eq.mp (by kernel_rfl) h)
        · intro σ w h
          obtain ⟨x4, e4, h⟩ := vP_elim h
          refine J.sub ?_ ((Sub.base _).upd e4)
          clear e4
          exact sh_sound _ _ _ _ (Eq.mp (by kernel_rfl) h)

/-! ### hayloft/hayloftref16.Right: function 39 -/
abbrev ref16_Right.p7 (L0 : Option Addr → Nat → Nat → Int → Option Addr → Nat → Nat → Int → Int → World → Prop) (K : Value → World → Prop) (x0A : Option Addr) (x0n : Nat) (x0c : Nat) (x1 : Int) (x10A : Option Addr) (x10n : Nat) (x10c : Nat) (x11 : Int) (x12 : Int) (w : World) : Prop :=
  L0 x0A x0n x0c x1 x10A x10n x10c x11 (IntKind.wrap .i64 (x12 + (1 : Int))) w
abbrev ref16_Right.p6 (L0 : Option Addr → Nat → Nat → Int → Option Addr → Nat → Nat → Int → Int → World → Prop) (K : Value → World → Prop) (x0A : Option Addr) (x0n : Nat) (x0c : Nat) (x1 : Int) (x10A : Option Addr) (x10n : Nat) (x10c : Nat) (x11 : Int) (x12 : Int) (x43 : Bool) (w : World) : Prop :=
  condP x43 (K (.bool false) w) (ref16_Right.p7 L0 K x0A x0n x0c x1 x10A x10n x10c x11 x12 w)
abbrev ref16_Right.p5 (L0 : Option Addr → Nat → Nat → Int → Option Addr → Nat → Nat → Int → Int → World → Prop) (K : Value → World → Prop) (x0A : Option Addr) (x0n : Nat) (x0c : Nat) (x1 : Int) (x5 : Int) (x6 : Int) (x10A : Option Addr) (x10n : Nat) (x10c : Nat) (x11 : Int) (x12 : Int) (w : World) : Prop :=
  condP (decide (x6 < (0 : Int))) (ref16_Right.p6 L0 K x0A x0n x0c x1 x10A x10n x10c x11 x12 true w) ((8 : Int) ≠ 0 ∧ condP ((Int.tmod x6 8) != (0 : Int)) (ref16_Right.p6 L0 K x0A x0n x0c x1 x10A x10n x10c x11 x12 true w) (condP (decide ((IntKind.wrap .i64 ((imax 0 x1) - (8 : Int))) < x6)) (ref16_Right.p6 L0 K x0A x0n x0c x1 x10A x10n x10c x11 x12 true w) (condP (decide ((0 : Int) < x5)) ((0 ≤ (IntKind.wrap .i64 (x5 - (1 : Int))) ∧ (IntKind.wrap .i64 (x5 - (1 : Int))) < ((x0n : Nat) : Int)) ∧ ∃ (a3 : Addr), x0A = some a3 ∧ ∃ (n4 : Int), w.cell? (a3.add ((IntKind.wrap .i64 (x5 - (1 : Int))).toNat)) = some (.int .i64 n4) ∧ ref16_Right.p6 L0 K x0A x0n x0c x1 x10A x10n x10c x11 x12 (decide (x6 ≤ n4)) w) (ref16_Right.p6 L0 K x0A x0n x0c x1 x10A x10n x10c x11 x12 false w))))
abbrev ref16_Right.p4 (L0 : Option Addr → Nat → Nat → Int → Option Addr → Nat → Nat → Int → Int → World → Prop) (K : Value → World → Prop) (x0A : Option Addr) (x0n : Nat) (x0c : Nat) (x1 : Int) (x10A : Option Addr) (x10n : Nat) (x10c : Nat) (x11 : Int) (x12 : Int) (w : World) : Prop :=
  (0 ≤ x12 ∧ x12 < ((x10n : Nat) : Int)) ∧ ∃ (a1 : Addr), x10A = some a1 ∧ ∃ (n2 : Int), w.cell? (a1.add x12.toNat) = some (.int .i64 n2) ∧ ref16_Right.p5 L0 K x0A x0n x0c x1 x12 n2 x10A x10n x10c x11 x12 w
abbrev ref16_Right.p8 (K : Value → World → Prop) (w : World) : Prop :=
  K (.bool true) w
abbrev ref16_Right.p3 (L0 : Option Addr → Nat → Nat → Int → Option Addr → Nat → Nat → Int → Int → World → Prop) (K : Value → World → Prop) (x0A : Option Addr) (x0n : Nat) (x0c : Nat) (x1 : Int) (x10A : Option Addr) (x10n : Nat) (x10c : Nat) (x11 : Int) (x12 : Int) (x13 : Bool) (w : World) : Prop :=
  condP x13 (ref16_Right.p4 L0 K x0A x0n x0c x1 x10A x10n x10c x11 x12 w) (ref16_Right.p8 K w)
abbrev ref16_Right.b0 (L0 : Option Addr → Nat → Nat → Int → Option Addr → Nat → Nat → Int → Int → World → Prop) (K : Value → World → Prop) (x0A : Option Addr) (x0n : Nat) (x0c : Nat) (x1 : Int) (x10A : Option Addr) (x10n : Nat) (x10c : Nat) (x11 : Int) (x12 : Int) (w : World) : Prop :=
  ref16_Right.p3 L0 K x0A x0n x0c x1 x10A x10n x10c x11 x12 (decide (x12 < x11)) w
def ref16_Right.l0 (K : Value → World → Prop) (k : Nat) : Option Addr → Nat → Nat → Int → Option Addr → Nat → Nat → Int → Int → World → Prop :=
  Nat.rec (motive := fun _ => Option Addr → Nat → Nat → Int → Option Addr → Nat → Nat → Int → Int → World → Prop) (fun _ _ _ _ _ _ _ _ _ _ => False) (fun _ ih => ref16_Right.b0 ih K) k
theorem ref16_Right.l0_succ (K : Value → World → Prop) (k : Nat) (x0A : Option Addr) (x0n : Nat) (x0c : Nat) (x1 : Int) (x10A : Option Addr) (x10n : Nat) (x10c : Nat) (x11 : Int) (x12 : Int) (w : World) : ref16_Right.l0 K (k + 1) x0A x0n x0c x1 x10A x10n x10c x11 x12 w = ref16_Right.b0 (ref16_Right.l0 K k) K x0A x0n x0c x1 x10A x10n x10c x11 x12 w := rfl
abbrev ref16_Right.p2 (K : Value → World → Prop) (x0A : Option Addr) (x0n : Nat) (x0c : Nat) (x1 : Int) (x10A : Option Addr) (x10n : Nat) (x10c : Nat) (x11 : Int) (x12 : Int) (w : World) : Prop :=
  ∃ k, ref16_Right.l0 K k x0A x0n x0c x1 x10A x10n x10c x11 x12 w
abbrev ref16_Right.p1 (K : Value → World → Prop) (x0A : Option Addr) (x0n : Nat) (x0c : Nat) (x1 : Int) (w : World) : Prop :=
  ref16_Right.p2 K x0A x0n x0c x1 x0A x0n x0c ((x0n : Nat) : Int) 0 w
abbrev ref16_Right.p0 (K : Value → World → Prop) (x0A : Option Addr) (x0n : Nat) (x0c : Nat) (x1 : Int) (w : World) : Prop :=
  condP (decide ((8192 : Int) < ((x0n : Nat) : Int))) (K (.bool false) w) (ref16_Right.p1 K x0A x0n x0c x1 w)
abbrev ref16_Right.F (q0A : Option Addr) (q0n : Nat) (q0c : Nat) (q1 : Int) (K : Value → World → Prop) (w : World) : Prop :=
  ref16_Right.p0 K q0A q0n q0c q1 w
theorem ref16_Right.ok {q0A : Option Addr} {q0n : Nat} {q0c : Nat} {q1 : Int} {K : Value → World → Prop} {w : World} (h : ref16_Right.F q0A q0n q0c q1 K w) :
    CallsE Tryd.prog 39 #[.slice q0A q0n q0c, .int .i64 q1] w K := by
  refine calls_of_J (n := 45) (rs := [.tmp 4]) Tryd.func39 rfl rfl rfl rfl ?_
  refine J_seq (fun σ w => vS (σ 0) fun x0A x0n x0c => vI .i64 (σ 1) fun x1 => ref16_Right.p0 K x0A x0n x0c x1 w) ?_ ?_
  ·
    exact sh_sound _ _ _ _ (Eq.mp (by kernel_rfl) h)
  · intro σ w h
    obtain ⟨x0A, x0n, x0c, e0, h⟩ := vS_elim h
    obtain ⟨x1, e1, h⟩ := vI_elim h
    refine J.sub ?_ (((Sub.base _).upd e0).upd e1)
    clear e0 e1
    refine J_seq (fun σ w => vS (σ 0) fun x0A x0n x0c => vI .i64 (σ 1) fun x1 => ref16_Right.p1 K x0A x0n x0c x1 w) ?_ ?_
    ·
      exact sh_sound _ _ _ _ (Eq.mp (by kernel_rfl) h)
    · intro σ w h
      obtain ⟨x0A, x0n, x0c, e0, h⟩ := vS_elim h
      obtain ⟨x1, e1, h⟩ := vI_elim h
      refine J.sub ?_ (((Sub.base _).upd e0).upd e1)
      clear e0 e1
      refine J_seq (fun σ w => ref16_Right.p8 K w) ?_ ?_
      ·
        refine J_seq (fun σ w => vS (σ 0) fun x0A x0n x0c => vI .i64 (σ 1) fun x1 => vS (σ 10) fun x10A x10n x10c => vI .i64 (σ 11) fun x11 => vI .i64 (σ 12) fun x12 => ref16_Right.p2 K x0A x0n x0c x1 x10A x10n x10c x11 x12 w) ?_ ?_
        ·
          exact sh_sound _ _ _ _ (Eq.mp (by kernel_rfl) h)
        · intro σ w h
          obtain ⟨x0A, x0n, x0c, e0, h⟩ := vS_elim h
          obtain ⟨x1, e1, h⟩ := vI_elim h
          obtain ⟨x10A, x10n, x10c, e10, h⟩ := vS_elim h
          obtain ⟨x11, e11, h⟩ := vI_elim h
          obtain ⟨x12, e12, h⟩ := vI_elim h
          refine J.sub ?_ ((((((Sub.base _).upd e0).upd e1).upd e10).upd e11).upd e12)
          clear e0 e1 e10 e11 e12
          refine J_block ?_
          refine J_loop (fun k σ w => vS (σ 0) fun x0A x0n x0c => vI .i64 (σ 1) fun x1 => vS (σ 10) fun x10A x10n x10c => vI .i64 (σ 11) fun x11 => vI .i64 (σ 12) fun x12 => ref16_Right.l0 K k x0A x0n x0c x1 x10A x10n x10c x11 x12 w) (Eq.mp (by kernel_rfl) h) ?_ ?_
          · intro σ w h
            obtain ⟨x0A, x0n, x0c, e0, h⟩ := vS_elim h
            obtain ⟨x1, e1, h⟩ := vI_elim h
            obtain ⟨x10A, x10n, x10c, e10, h⟩ := vS_elim h
            obtain ⟨x11, e11, h⟩ := vI_elim h
            obtain ⟨x12, e12, h⟩ := vI_elim h
            exact h
          · intro k0 σ w h
            obtain ⟨x0A, x0n, x0c, e0, h⟩ := vS_elim h
            obtain ⟨x1, e1, h⟩ := vI_elim h
            obtain ⟨x10A, x10n, x10c, e10, h⟩ := vS_elim h
            obtain ⟨x11, e11, h⟩ := vI_elim h
            obtain ⟨x12, e12, h⟩ := vI_elim h
            refine J.sub ?_ ((((((Sub.base _).upd e0).upd e1).upd e10).upd e11).upd e12)
            clear e0 e1 e10 e11 e12
            refine J_seq (fun σ w => vS (σ 0) fun x0A x0n x0c => vI .i64 (σ 1) fun x1 => vS (σ 10) fun x10A x10n x10c => vI .i64 (σ 11) fun x11 => vI .i64 (σ 12) fun x12 => vB (σ 13) fun x13 => ref16_Right.p3 (ref16_Right.l0 K k0) K x0A x0n x0c x1 x10A x10n x10c x11 x12 x13 w) ?_ ?_
            ·
              exact sh_sound _ _ _ _ (Eq.mp (by kernel_rfl) h)
            · intro σ w h
              obtain ⟨x0A, x0n, x0c, e0, h⟩ := vS_elim h
              obtain ⟨x1, e1, h⟩ := vI_elim h
              obtain ⟨x10A, x10n, x10c, e10, h⟩ := vS_elim h
              obtain ⟨x11, e11, h⟩ := vI_elim h
              obtain ⟨x12, e12, h⟩ := vI_elim h
              obtain ⟨x13, e13, h⟩ := vB_elim h
              refine J.sub ?_ (((((((Sub.base _).upd e0).upd e1).upd e10).upd e11).upd e12).upd e13)
              clear e0 e1 e10 e11 e12 e13
              refine J_seq (fun σ w => vS (σ 0) fun x0A x0n x0c => vI .i64 (σ 1) fun x1 => vS (σ 10) fun x10A x10n x10c => vI .i64 (σ 11) fun x11 => vI .i64 (σ 12) fun x12 => ref16_Right.p4 (ref16_Right.l0 K k0) K x0A x0n x0c x1 x10A x10n x10c x11 x12 w) ?_ ?_
              ·
                exact sh_sound _ _ _ _ (Eq.mp (by kernel_rfl) h)
              · intro σ w h
                obtain ⟨x0A, x0n, x0c, e0, h⟩ := vS_elim h
                obtain ⟨x1, e1, h⟩ := vI_elim h
                obtain ⟨x10A, x10n, x10c, e10, h⟩ := vS_elim h
                obtain ⟨x11, e11, h⟩ := vI_elim h
                obtain ⟨x12, e12, h⟩ := vI_elim h
                refine J.sub ?_ ((((((Sub.base _).upd e0).upd e1).upd e10).upd e11).upd e12)
                clear e0 e1 e10 e11 e12
                refine J_seq (fun σ w => vS (σ 0) fun x0A x0n x0c => vI .i64 (σ 1) fun x1 => vS (σ 10) fun x10A x10n x10c => vI .i64 (σ 11) fun x11 => vI .i64 (σ 12) fun x12 => ref16_Right.p7 (ref16_Right.l0 K k0) K x0A x0n x0c x1 x10A x10n x10c x11 x12 w) ?_ ?_
                ·
                  refine J_block ?_
                  refine J_seq (fun σ w => vS (σ 0) fun x0A x0n x0c => vI .i64 (σ 1) fun x1 => vI .i64 (σ 5) fun x5 => vI .i64 (σ 6) fun x6 => vS (σ 10) fun x10A x10n x10c => vI .i64 (σ 11) fun x11 => vI .i64 (σ 12) fun x12 => ref16_Right.p5 (ref16_Right.l0 K k0) K x0A x0n x0c x1 x5 x6 x10A x10n x10c x11 x12 w) ?_ ?_
                  ·
                    exact sh_sound _ _ _ _ (Eq.mp (by kernel_rfl) h)
                  · intro σ w h
                    obtain ⟨x0A, x0n, x0c, e0, h⟩ := vS_elim h
                    obtain ⟨x1, e1, h⟩ := vI_elim h
                    obtain ⟨x5, e5, h⟩ := vI_elim h
                    obtain ⟨x6, e6, h⟩ := vI_elim h
                    obtain ⟨x10A, x10n, x10c, e10, h⟩ := vS_elim h
                    obtain ⟨x11, e11, h⟩ := vI_elim h
                    obtain ⟨x12, e12, h⟩ := vI_elim h
                    refine J.sub ?_ ((((((((Sub.base _).upd e0).upd e1).upd e5).upd e6).upd e10).upd e11).upd e12)
                    clear e0 e1 e5 e6 e10 e11 e12
                    refine J_seq (fun σ w => vS (σ 0) fun x0A x0n x0c => vI .i64 (σ 1) fun x1 => vS (σ 10) fun x10A x10n x10c => vI .i64 (σ 11) fun x11 => vI .i64 (σ 12) fun x12 => vB (σ 43) fun x43 => ref16_Right.p6 (ref16_Right.l0 K k0) K x0A x0n x0c x1 x10A x10n x10c x11 x12 x43 w) ?_ ?_
                    ·
                      exact sh_sound _ _ _ _ (Eq.mp (by kernel_rfl) h)
                    · intro σ w h
                      obtain ⟨x0A, x0n, x0c, e0, h⟩ := vS_elim h
                      obtain ⟨x1, e1, h⟩ := vI_elim h
                      obtain ⟨x10A, x10n, x10c, e10, h⟩ := vS_elim h
                      obtain ⟨x11, e11, h⟩ := vI_elim h
                      obtain ⟨x12, e12, h⟩ := vI_elim h
                      obtain ⟨x43, e43, h⟩ := vB_elim h
                      refine J.sub ?_ (((((((Sub.base _).upd e0).upd e1).upd e10).upd e11).upd e12).upd e43)
                      clear e0 e1 e10 e11 e12 e43
                      exact sh_sound _ _ _ _ (Eq.mp (by kernel_rfl) h)
                · intro σ w h
                  obtain ⟨x0A, x0n, x0c, e0, h⟩ := vS_elim h
                  obtain ⟨x1, e1, h⟩ := vI_elim h
                  obtain ⟨x10A, x10n, x10c, e10, h⟩ := vS_elim h
                  obtain ⟨x11, e11, h⟩ := vI_elim h
                  obtain ⟨x12, e12, h⟩ := vI_elim h
                  refine J.sub ?_ ((((((Sub.base _).upd e0).upd e1).upd e10).upd e11).upd e12)
                  clear e0 e1 e10 e11 e12
                  exact sh_sound _ _ _ _ (Eq.mp (by kernel_rfl) h)
      · intro σ w h
        refine J.sub ?_ (Sub.base _)
        exact sh_sound _ _ _ _ (Eq.mp (by kernel_rfl) h)

/-! ### hayloft/hayloftref08.Good: function 40 -/
abbrev ref08_Good.p1 (K : Value → World → Prop) (x2 : Bool) (w : World) : Prop :=
  K (.bool x2) w
abbrev ref08_Good.p0 (K : Value → World → Prop) (x0 : Int) (w : World) : Prop :=
  condP (decide ((256 : Int) ≤ x0)) (condP (decide (x0 ≤ (1099511627776 : Int))) ((256 : Int) ≠ 0 ∧ ref08_Good.p1 K ((Int.tmod x0 256) == (0 : Int)) w) (ref08_Good.p1 K false w)) (ref08_Good.p1 K false w)
abbrev ref08_Good.F (q0 : Int) (K : Value → World → Prop) (w : World) : Prop :=
  ref08_Good.p0 K q0 w
theorem ref08_Good.ok {q0 : Int} {K : Value → World → Prop} {w : World} (h : ref08_Good.F q0 K w) :
    CallsE Tryd.prog 40 #[.int .i64 q0] w K := by
  refine calls_of_J (n := 14) (rs := [.tmp 2]) Tryd.func40 rfl rfl rfl rfl ?_
  refine J_seq (fun σ w => vI .i64 (σ 0) fun x0 => ref08_Good.p0 K x0 w) ?_ ?_
  ·
    exact sh_sound _ _ _ _ (Eq.mp (by kernel_rfl) h)
  · intro σ w h
    obtain ⟨x0, e0, h⟩ := vI_elim h
    refine J.sub ?_ ((Sub.base _).upd e0)
    clear e0
    refine J_seq (fun σ w => vB (σ 2) fun x2 => ref08_Good.p1 K x2 w) ?_ ?_
    ·
      exact sh_sound _ _ _ _ (Eq.mp (by kernel_rfl) h)
    · intro σ w h
      obtain ⟨x2, e2, h⟩ := vB_elim h
      refine J.sub ?_ ((Sub.base _).upd e2)
      clear e2
      exact sh_sound _ _ _ _ (Eq.mp (by kernel_rfl) h)

/-! ### (*hayloft/span.Span).Live: function 41 -/
abbrev span_Span_Live.F (q0 : Option Addr) (K : Value → World → Prop) (w : World) : Prop :=
  condP q0.isNone (K (.int .i64 0) w) (∃ (a1 : Addr), q0 = some a1 ∧ ∃ (p2 : Option Addr), w.cell? a1 = some (.pointer p2) ∧ CallsE Tryd.prog 64 #[.agg #[.pointer p2]] w (fun v3 w4 => ∃ (n5 : Int), v3 = .int .i64 n5 ∧ K (.int .i64 n5) w4))
theorem span_Span_Live.ok {q0 : Option Addr} {K : Value → World → Prop} {w : World} (h : span_Span_Live.F q0 K w) :
    CallsE Tryd.prog 41 #[.pointer q0] w K := by
  refine calls_of_J (n := 10) (rs := [.tmp 2]) Tryd.func41 rfl rfl rfl rfl ?_
  exact sh_sound _ _ _ _ (Eq.mp (by kernel_rfl) h)

/-! ### (*hayloft/span.Span).Size: function 42 -/
abbrev span_Span_Size.F (q0 : Option Addr) (K : Value → World → Prop) (w : World) : Prop :=
  condP q0.isNone (K (.int .i64 0) w) (∃ (a1 : Addr), q0 = some a1 ∧ ∃ (n2 : Int), w.cell? (a1.add 4) = some (.int .i64 n2) ∧ K (.int .i64 n2) w)
theorem span_Span_Size.ok {q0 : Option Addr} {K : Value → World → Prop} {w : World} (h : span_Span_Size.F q0 K w) :
    CallsE Tryd.prog 42 #[.pointer q0] w K := by
  refine calls_of_J (n := 9) (rs := [.tmp 2]) Tryd.func42 rfl rfl rfl rfl ?_
  exact sh_sound _ _ _ _ (Eq.mp (by kernel_rfl) h)

/-! ### (*hayloft/hayloftref10.Span).Size: function 43 -/
abbrev ref10_Span_Size.F (q0 : Option Addr) (K : Value → World → Prop) (w : World) : Prop :=
  ∃ (a1 : Addr), q0 = some a1 ∧ ∃ (n2 : Int), w.cell? (a1.add 1) = some (.int .i64 n2) ∧ condP (n2 == (7 : Int)) (∃ (a3 : Addr), q0 = some a3 ∧ ∃ (n4 : Int), w.cell? (a3.add 2) = some (.int .i64 n4) ∧ K (.int .i64 n4) w) (∃ (a5 : Addr), q0 = some a5 ∧ ∃ (n6 : Int), w.cell? (a5.add 1) = some (.int .i64 n6) ∧ CallsE Tryd.prog 62 #[.int .i64 n6] w (fun v7 w8 => ∃ (n9 : Int), v7 = .int .i64 n9 ∧ K (.int .i64 n9) w8))
theorem ref10_Span_Size.ok {q0 : Option Addr} {K : Value → World → Prop} {w : World} (h : ref10_Span_Size.F q0 K w) :
    CallsE Tryd.prog 43 #[.pointer q0] w K := by
  refine calls_of_J (n := 17) (rs := [.tmp 2]) Tryd.func43 rfl rfl rfl rfl ?_
  exact sh_sound _ _ _ _ (Eq.mp (by kernel_rfl) h)

/-! ### hayloft/num.Open: function 44 -/
abbrev num_Open.F (q0A : Option Addr) (q0n : Nat) (q0c : Nat) (K : Value → World → Prop) (w : World) : Prop :=
  (0 ≤ ((q0n : Nat) : Int) ∧ ((q0n : Nat) : Int) ≤ ((q0n : Nat) : Int) ∧ (1 : Int) * ((q0n : Nat) : Int) ≤ 281474976710656 ∧ ((q0n : Nat) : Int) ≤ 9223372036854775807) ∧ wlet (w.alloc (.cells (madeCells #[.int .u8 0] (((q0n : Nat) : Int).toNat * 1)) 5)) fun w1 => SemJ Tryd.prog (Builtin.copy_ #[25, 25] 3 #[.slice (some ⟨w.heap.size, 0, none⟩) (((q0n : Nat) : Int).toNat) (((q0n : Nat) : Int).toNat), .slice q0A q0n q0c]) (fun v2 w3 => ∃ (n4 : Int), v2 = .int .i64 n4 ∧ wlet (w3.alloc (.cells #[.slice (some ⟨w.heap.size, 0, none⟩) (((q0n : Nat) : Int).toNat) (((q0n : Nat) : Int).toNat), .int .i64 0] 105)) fun w5 => K (.pointer (some (⟨w3.heap.size, 0, none⟩))) w5) w1
theorem num_Open.ok {q0A : Option Addr} {q0n : Nat} {q0c : Nat} {K : Value → World → Prop} {w : World} (h : num_Open.F q0A q0n q0c K w) :
    CallsE Tryd.prog 44 #[.slice q0A q0n q0c] w K := by
  refine calls_of_J (n := 13) (rs := [.tmp 2]) Tryd.func44 rfl rfl rfl rfl ?_
  exact sh_sound _ _ _ _ (Eq.mp (by kernel_rfl) h)

/-! ### hayloft/image.head: function 45 -/
abbrev image_head.p2 (K : Value → World → Prop) (x0 : Option Addr) (x2 : Addr) (x3 : Addr) (w : World) : Prop :=
  ∃ (n25 : Int), w.cell? (x3.add 1) = some (.int .i64 n25) ∧ CallsE Tryd.prog 24 #[.int .i64 n25] w (fun v26 w27 => ∃ (n28 : Int), v26 = .int .i64 n28 ∧ (8 : Int) ≠ 0 ∧ CallsE Tryd.prog 48 #[.pointer x0, .int .i64 (IntKind.wrap .i64 (Int.tdiv (IntKind.wrap .i64 (n28 + (7 : Int))) 8))] w27 (fun v29 w30 => ∃ (A31 : Option Addr) (m32 : Nat) (c33 : Nat), v29 = .slice A31 m32 c33 ∧ CallsE Tryd.prog 66 #[.pointer x0] w30 (fun v34 w35 => ∃ (n36 : Int), v34 = .int .i64 n36 ∧ condP (n36 != (0 : Int)) (canStore w35 x2 ∧ wlet (w35.setCell x2 (.int .i64 0)) fun w37 => canStore w37 (x2.add 1) ∧ wlet (w37.setCell (x2.add 1) (.int .i64 0)) fun w38 => canStore w38 (x2.add 2) ∧ wlet (w38.setCell (x2.add 2) (.int .i64 0)) fun w39 => canStore w39 (x2.add 3) ∧ wlet (w39.setCell (x2.add 3) (.slice none 0 0)) fun w40 => ∃ (n41 : Int), w40.cell? x2 = some (.int .i64 n41) ∧ ∃ (n42 : Int), w40.cell? (x2.add 1) = some (.int .i64 n42) ∧ ∃ (n43 : Int), w40.cell? (x2.add 2) = some (.int .i64 n43) ∧ ∃ (A44 : Option Addr) (m45 : Nat) (c46 : Nat), w40.cell? (x2.add 3) = some (.slice A44 m45 c46) ∧ K (.agg #[.int .i64 n41, .int .i64 n42, .int .i64 n43, .slice A44 m45 c46]) w40) (CallsE Tryd.prog 67 #[.int .i64 n28, .slice A31 m32 c33] w35 (fun v47 w48 => ∃ (p49 : Option Addr) (n50 : Int), v47 = .tuple #[.pointer p49, .int .i64 n50] ∧ CallsE Tryd.prog 65 #[.pointer x0, .int .i64 n50] w48 (fun v51 w52 => v51 = .tuple #[] ∧ CallsE Tryd.prog 68 #[.pointer p49] w52 (fun v53 w54 => ∃ (A55 : Option Addr) (m56 : Nat) (c57 : Nat), v53 = .slice A55 m56 c57 ∧ canStore w54 (x3.add 3) ∧ wlet (w54.setCell (x3.add 3) (.slice A55 m56 c57)) fun w58 => ∃ (n59 : Int), w58.cell? x3 = some (.int .i64 n59) ∧ ∃ (n60 : Int), w58.cell? (x3.add 1) = some (.int .i64 n60) ∧ ∃ (n61 : Int), w58.cell? (x3.add 2) = some (.int .i64 n61) ∧ ∃ (A62 : Option Addr) (m63 : Nat) (c64 : Nat), w58.cell? (x3.add 3) = some (.slice A62 m63 c64) ∧ canStore w58 x2 ∧ wlet (w58.setCell x2 (.int .i64 n59)) fun w65 => canStore w65 (x2.add 1) ∧ wlet (w65.setCell (x2.add 1) (.int .i64 n60)) fun w66 => canStore w66 (x2.add 2) ∧ wlet (w66.setCell (x2.add 2) (.int .i64 n61)) fun w67 => canStore w67 (x2.add 3) ∧ wlet (w67.setCell (x2.add 3) (.slice A62 m63 c64)) fun w68 => ∃ (n69 : Int), w68.cell? x2 = some (.int .i64 n69) ∧ ∃ (n70 : Int), w68.cell? (x2.add 1) = some (.int .i64 n70) ∧ ∃ (n71 : Int), w68.cell? (x2.add 2) = some (.int .i64 n71) ∧ ∃ (A72 : Option Addr) (m73 : Nat) (c74 : Nat), w68.cell? (x2.add 3) = some (.slice A72 m73 c74) ∧ K (.agg #[.int .i64 n69, .int .i64 n70, .int .i64 n71, .slice A72 m73 c74]) w68)))))))
abbrev image_head.p1 (K : Value → World → Prop) (x0 : Option Addr) (x2 : Addr) (x3 : Addr) (w : World) : Prop :=
  ∃ (n16 : Int), w.cell? x3 = some (.int .i64 n16) ∧ ∃ (n17 : Int), w.cell? (x3.add 1) = some (.int .i64 n17) ∧ ∃ (n18 : Int), w.cell? (x3.add 2) = some (.int .i64 n18) ∧ CallsE Tryd.prog 63 #[.int .i64 n16, .int .i64 n17, .int .i64 n18] w (fun v19 w20 => ∃ (p21 : Option Addr) (n22 : Int), v19 = .tuple #[.pointer p21, .int .i64 n22] ∧ condP (n22 != (0 : Int)) (CallsE Tryd.prog 65 #[.pointer x0, .int .i64 4] w20 (fun v23 w24 => v23 = .tuple #[] ∧ image_head.p2 K x0 x2 x3 w24)) (image_head.p2 K x0 x2 x3 w20))
abbrev image_head.p0 (K : Value → World → Prop) (x0 : Option Addr) (x2 : Addr) (w : World) : Prop :=
  CallsE Tryd.prog 46 #[.pointer x0, .int .u64 4095] w (fun v2 w3 => ∃ (n4 : Int), v2 = .int .u64 n4 ∧ CallsE Tryd.prog 46 #[.pointer x0, .int .u64 7] w3 (fun v5 w6 => ∃ (n7 : Int), v5 = .int .u64 n7 ∧ CallsE Tryd.prog 46 #[.pointer x0, .int .u64 4096] w6 (fun v8 w9 => ∃ (n10 : Int), v8 = .int .u64 n10 ∧ wlet (w9.alloc (.cells #[.int .i64 0, .int .i64 0, .int .i64 0, .slice none 0 0] 24)) fun w11 => canStore w11 (⟨w9.heap.size, 0, none⟩) ∧ wlet (w11.setCell (⟨w9.heap.size, 0, none⟩) (.int .i64 (IntKind.wrap .i64 n4))) fun w12 => canStore w12 (⟨w9.heap.size, 1, none⟩) ∧ wlet (w12.setCell (⟨w9.heap.size, 1, none⟩) (.int .i64 (IntKind.wrap .i64 n7))) fun w13 => canStore w13 (⟨w9.heap.size, 2, none⟩) ∧ wlet (w13.setCell (⟨w9.heap.size, 2, none⟩) (.int .i64 (IntKind.wrap .i64 n10))) fun w14 => canStore w14 (⟨w9.heap.size, 3, none⟩) ∧ wlet (w14.setCell (⟨w9.heap.size, 3, none⟩) (.slice none 0 0)) fun w15 => image_head.p1 K x0 x2 (⟨w9.heap.size, 0, none⟩) w15)))
abbrev image_head.F (q0 : Option Addr) (K : Value → World → Prop) (w : World) : Prop :=
  wlet (w.alloc (.cells #[.int .i64 0, .int .i64 0, .int .i64 0, .slice none 0 0] 24)) fun w1 => image_head.p0 K q0 (⟨w.heap.size, 0, none⟩) w1
theorem image_head.ok {q0 : Option Addr} {K : Value → World → Prop} {w : World} (h : image_head.F q0 K w) :
    CallsE Tryd.prog 45 #[.pointer q0] w K := by
  refine calls_of_J (n := 59) (rs := [.cell 2 24]) Tryd.func45 rfl rfl rfl rfl ?_
  refine J_seq (fun σ w => vP (σ 0) fun x0 => vPa (σ 2) fun x2 => image_head.p0 K x0 x2 w) ?_ ?_
  ·
    exact sh_sound _ _ _ _ (Eq.mp (by kernel_rfl) h)
  · intro σ w h
    obtain ⟨x0, e0, h⟩ := vP_elim h
    obtain ⟨x2, e2, h⟩ := vPa_elim h
    refine J.sub ?_ (((Sub.base _).upd e0).upd e2)
    clear e0 e2
    refine J_seq (fun σ w => vP (σ 0) fun x0 => vPa (σ 2) fun x2 => vPa (σ 3) fun x3 => image_head.p1 K x0 x2 x3 w) ?_ ?_
    ·
      exact sh_sound _ _ _ _ (Eq.mp (by kernel_rfl) h)
    · intro σ w h
      obtain ⟨x0, e0, h⟩ := vP_elim h
      obtain ⟨x2, e2, h⟩ := vPa_elim h
      obtain ⟨x3, e3, h⟩ := vPa_elim h
      refine J.sub ?_ ((((Sub.base _).upd e0).upd e2).upd e3)
      clear e0 e2 e3
      refine J_seq (fun σ w => vP (σ 0) fun x0 => vPa (σ 2) fun x2 => vPa (σ 3) fun x3 => image_head.p2 K x0 x2 x3 w) ?_ ?_
      ·
        exact sh_sound _ _ _ _ (Eq.mp (by kernel_rfl) h)
      · intro σ w h
        obtain ⟨x0, e0, h⟩ := vP_elim h
        obtain ⟨x2, e2, h⟩ := vPa_elim h
        obtain ⟨x3, e3, h⟩ := vPa_elim h
        refine J.sub ?_ ((((Sub.base _).upd e0).upd e2).upd e3)
        clear e0 e2 e3
        exact sh_sound _ _ _ _ (Eq.mp (by kernel_rfl) h)

/-! ### (*hayloft/num.Reader).Upto: function 46 -/
abbrev num_Reader_Upto.F (q0 : Option Addr) (q1 : Int) (K : Value → World → Prop) (w : World) : Prop :=
  condP q0.isNone (K (.int .u64 0) w) (∃ (a1 : Addr), q0 = some a1 ∧ ∃ (A2 : Option Addr) (m3 : Nat) (c4 : Nat), w.cell? a1 = some (.slice A2 m3 c4) ∧ CallsE Tryd.prog 69 #[.pointer q0] w (fun v5 w6 => ∃ (n7 : Int), v5 = .int .u64 n7 ∧ condP (decide (q1 < n7)) (∃ (a8 : Addr), q0 = some a8 ∧ canStore w6 a8 ∧ wlet (w6.setCell a8 (.slice A2 m3 c4)) fun w9 => ∃ (a10 : Addr), q0 = some a10 ∧ canStore w9 (a10.add 1) ∧ wlet (w9.setCell (a10.add 1) (.int .i64 4)) fun w11 => K (.int .u64 0) w11) (K (.int .u64 n7) w6)))
theorem num_Reader_Upto.ok {q0 : Option Addr} {q1 : Int} {K : Value → World → Prop} {w : World} (h : num_Reader_Upto.F q0 q1 K w) :
    CallsE Tryd.prog 46 #[.pointer q0, .int .u64 q1] w K := by
  refine calls_of_J (n := 26) (rs := [.tmp 4]) Tryd.func46 rfl rfl rfl rfl ?_
  exact sh_sound _ _ _ _ (Eq.mp (by kernel_rfl) h)

/-! ### hayloft/reloc.Read: function 47 -/
abbrev reloc_Read.p8 (L0 : Option Addr → Option Addr → Nat → Nat → Int → Int → World → Prop) (K : Value → World → Prop) (x0 : Option Addr) (x3A : Option Addr) (x3n : Nat) (x3c : Nat) (x4 : Int) (x5 : Int) (w : World) : Prop :=
  L0 x0 x3A x3n x3c x4 (IntKind.wrap .u64 (x5 - (1 : Int))) w
abbrev reloc_Read.p7 (L0 : Option Addr → Option Addr → Nat → Nat → Int → Int → World → Prop) (K : Value → World → Prop) (x0 : Option Addr) (x3A : Option Addr) (x3n : Nat) (x3c : Nat) (x5 : Int) (x6 : Int) (w : World) : Prop :=
  wlet (w.alloc (.cells #[.int .i64 x6] 3)) fun w12 => SemJ Tryd.prog (Builtin.append_ #[22, 22] 22 #[.slice x3A x3n x3c, .slice (some ⟨w.heap.size, 0, none⟩) 1 1]) (fun v13 w14 => ∃ (A15 : Option Addr) (m16 : Nat) (c17 : Nat), v13 = .slice A15 m16 c17 ∧ reloc_Read.p8 L0 K x0 A15 m16 c17 (IntKind.wrap .i64 (x6 + (8 : Int))) x5 w14) w12
abbrev reloc_Read.p6 (L0 : Option Addr → Option Addr → Nat → Nat → Int → Int → World → Prop) (K : Value → World → Prop) (x0 : Option Addr) (x3A : Option Addr) (x3n : Nat) (x3c : Nat) (x5 : Int) (x6 : Int) (w : World) : Prop :=
  condP (decide ((65527 : Int) < x6)) (CallsE Tryd.prog 65 #[.pointer x0, .int .i64 4] w (fun v10 w11 => v10 = .tuple #[] ∧ reloc_Read.p7 L0 K x0 x3A x3n x3c x5 x6 w11)) (reloc_Read.p7 L0 K x0 x3A x3n x3c x5 x6 w)
abbrev reloc_Read.p5 (L0 : Option Addr → Option Addr → Nat → Nat → Int → Int → World → Prop) (K : Value → World → Prop) (x0 : Option Addr) (x3A : Option Addr) (x3n : Nat) (x3c : Nat) (x4 : Int) (x5 : Int) (w : World) : Prop :=
  CallsE Tryd.prog 46 #[.pointer x0, .int .u64 8192] w (fun v7 w8 => ∃ (n9 : Int), v7 = .int .u64 n9 ∧ reloc_Read.p6 L0 K x0 x3A x3n x3c x5 (IntKind.wrap .i64 (x4 + (IntKind.wrap .i64 ((8 : Int) * (IntKind.wrap .i64 n9))))) w8)
abbrev reloc_Read.p9 (K : Value → World → Prop) (x0 : Option Addr) (x3A : Option Addr) (x3n : Nat) (x3c : Nat) (w : World) : Prop :=
  CallsE Tryd.prog 66 #[.pointer x0] w (fun v18 w19 => ∃ (n20 : Int), v18 = .int .i64 n20 ∧ condP (n20 != (0 : Int)) (K (.slice none 0 0) w19) (K (.slice x3A x3n x3c) w19))
abbrev reloc_Read.p4 (L0 : Option Addr → Option Addr → Nat → Nat → Int → Int → World → Prop) (K : Value → World → Prop) (x0 : Option Addr) (x3A : Option Addr) (x3n : Nat) (x3c : Nat) (x4 : Int) (x5 : Int) (x15 : Bool) (w : World) : Prop :=
  condP x15 (reloc_Read.p5 L0 K x0 x3A x3n x3c x4 x5 w) (reloc_Read.p9 K x0 x3A x3n x3c w)
abbrev reloc_Read.b0 (L0 : Option Addr → Option Addr → Nat → Nat → Int → Int → World → Prop) (K : Value → World → Prop) (x0 : Option Addr) (x3A : Option Addr) (x3n : Nat) (x3c : Nat) (x4 : Int) (x5 : Int) (w : World) : Prop :=
  condP (decide ((0 : Int) < x5)) (CallsE Tryd.prog 66 #[.pointer x0] w (fun v4 w5 => ∃ (n6 : Int), v4 = .int .i64 n6 ∧ reloc_Read.p4 L0 K x0 x3A x3n x3c x4 x5 (n6 == (0 : Int)) w5)) (reloc_Read.p4 L0 K x0 x3A x3n x3c x4 x5 false w)
def reloc_Read.l0 (K : Value → World → Prop) (k : Nat) : Option Addr → Option Addr → Nat → Nat → Int → Int → World → Prop :=
  Nat.rec (motive := fun _ => Option Addr → Option Addr → Nat → Nat → Int → Int → World → Prop) (fun _ _ _ _ _ _ _ => False) (fun _ ih => reloc_Read.b0 ih K) k
theorem reloc_Read.l0_succ (K : Value → World → Prop) (k : Nat) (x0 : Option Addr) (x3A : Option Addr) (x3n : Nat) (x3c : Nat) (x4 : Int) (x5 : Int) (w : World) : reloc_Read.l0 K (k + 1) x0 x3A x3n x3c x4 x5 w = reloc_Read.b0 (reloc_Read.l0 K k) K x0 x3A x3n x3c x4 x5 w := rfl
abbrev reloc_Read.p3 (K : Value → World → Prop) (x0 : Option Addr) (x3A : Option Addr) (x3n : Nat) (x3c : Nat) (x4 : Int) (x5 : Int) (w : World) : Prop :=
  ∃ k, reloc_Read.l0 K k x0 x3A x3n x3c x4 x5 w
abbrev reloc_Read.p2 (K : Value → World → Prop) (x0 : Option Addr) (x3A : Option Addr) (x3n : Nat) (x3c : Nat) (x4 : Int) (w : World) : Prop :=
  CallsE Tryd.prog 46 #[.pointer x0, .int .u64 8192] w (fun v1 w2 => ∃ (n3 : Int), v1 = .int .u64 n3 ∧ reloc_Read.p3 K x0 x3A x3n x3c x4 n3 w2)
abbrev reloc_Read.p1 (K : Value → World → Prop) (x0 : Option Addr) (x3A : Option Addr) (x3n : Nat) (x3c : Nat) (w : World) : Prop :=
  reloc_Read.p2 K x0 x3A x3n x3c 0 w
abbrev reloc_Read.p0 (K : Value → World → Prop) (x0 : Option Addr) (w : World) : Prop :=
  reloc_Read.p1 K x0 none 0 0 w
abbrev reloc_Read.F (q0 : Option Addr) (K : Value → World → Prop) (w : World) : Prop :=
  reloc_Read.p0 K q0 w
theorem reloc_Read.ok {q0 : Option Addr} {K : Value → World → Prop} {w : World} (h : reloc_Read.F q0 K w) :
    CallsE Tryd.prog 47 #[.pointer q0] w K := by
  refine calls_of_J (n := 38) (rs := [.tmp 2]) Tryd.func47 rfl rfl rfl rfl ?_
  refine J_seq (fun σ w => vP (σ 0) fun x0 => reloc_Read.p0 K x0 w) ?_ ?_
  ·
    exact sh_sound _ _ _ _ (Eq.mp (by kernel_rfl) h)
  · intro σ w h
    obtain ⟨x0, e0, h⟩ := vP_elim h
    refine J.sub ?_ ((Sub.base _).upd e0)
    clear e0
    refine J_seq (fun σ w => vP (σ 0) fun x0 => vS (σ 3) fun x3A x3n x3c => reloc_Read.p1 K x0 x3A x3n x3c w) ?_ ?_
    ·
      exact sh_sound _ _ _ _ (Eq.mp (by kernel_rfl) h)
    · intro σ w h
      obtain ⟨x0, e0, h⟩ := vP_elim h
      obtain ⟨x3A, x3n, x3c, e3, h⟩ := vS_elim h
      refine J.sub ?_ (((Sub.base _).upd e0).upd e3)
      clear e0 e3
      refine J_seq (fun σ w => vP (σ 0) fun x0 => vS (σ 3) fun x3A x3n x3c => vI .i64 (σ 4) fun x4 => reloc_Read.p2 K x0 x3A x3n x3c x4 w) ?_ ?_
      ·
        exact sh_sound _ _ _ _ (Eq.mp (by kernel_rfl) h)
      · intro σ w h
        obtain ⟨x0, e0, h⟩ := vP_elim h
        obtain ⟨x3A, x3n, x3c, e3, h⟩ := vS_elim h
        obtain ⟨x4, e4, h⟩ := vI_elim h
        refine J.sub ?_ ((((Sub.base _).upd e0).upd e3).upd e4)
        clear e0 e3 e4
        refine J_seq (fun σ w => vP (σ 0) fun x0 => vS (σ 3) fun x3A x3n x3c => reloc_Read.p9 K x0 x3A x3n x3c w) ?_ ?_
        ·
          refine J_seq (fun σ w => vP (σ 0) fun x0 => vS (σ 3) fun x3A x3n x3c => vI .i64 (σ 4) fun x4 => vI .u64 (σ 5) fun x5 => reloc_Read.p3 K x0 x3A x3n x3c x4 x5 w) ?_ ?_
          ·
            exact sh_sound _ _ _ _ (Eq.mp (by kernel_rfl) h)
          · intro σ w h
            obtain ⟨x0, e0, h⟩ := vP_elim h
            obtain ⟨x3A, x3n, x3c, e3, h⟩ := vS_elim h
            obtain ⟨x4, e4, h⟩ := vI_elim h
            obtain ⟨x5, e5, h⟩ := vI_elim h
            refine J.sub ?_ (((((Sub.base _).upd e0).upd e3).upd e4).upd e5)
            clear e0 e3 e4 e5
            refine J_block ?_
            refine J_loop (fun k σ w => vP (σ 0) fun x0 => vS (σ 3) fun x3A x3n x3c => vI .i64 (σ 4) fun x4 => vI .u64 (σ 5) fun x5 => reloc_Read.l0 K k x0 x3A x3n x3c x4 x5 w) (Eq.mp (by kernel_rfl) h) ?_ ?_
            · intro σ w h
              obtain ⟨x0, e0, h⟩ := vP_elim h
              obtain ⟨x3A, x3n, x3c, e3, h⟩ := vS_elim h
              obtain ⟨x4, e4, h⟩ := vI_elim h
              obtain ⟨x5, e5, h⟩ := vI_elim h
              exact h
            · intro k0 σ w h
              obtain ⟨x0, e0, h⟩ := vP_elim h
              obtain ⟨x3A, x3n, x3c, e3, h⟩ := vS_elim h
              obtain ⟨x4, e4, h⟩ := vI_elim h
              obtain ⟨x5, e5, h⟩ := vI_elim h
              refine J.sub ?_ (((((Sub.base _).upd e0).upd e3).upd e4).upd e5)
              clear e0 e3 e4 e5
              refine J_seq (fun σ w => vP (σ 0) fun x0 => vS (σ 3) fun x3A x3n x3c => vI .i64 (σ 4) fun x4 => vI .u64 (σ 5) fun x5 => reloc_Read.p5 (reloc_Read.l0 K k0) K x0 x3A x3n x3c x4 x5 w) ?_ ?_
              ·
                refine J_seq (fun σ w => vP (σ 0) fun x0 => vS (σ 3) fun x3A x3n x3c => vI .i64 (σ 4) fun x4 => vI .u64 (σ 5) fun x5 => vB (σ 15) fun x15 => reloc_Read.p4 (reloc_Read.l0 K k0) K x0 x3A x3n x3c x4 x5 x15 w) ?_ ?_
                ·
                  exact sh_sound _ _ _ _ (Eq.mp (by kernel_rfl) h)
                · intro σ w h
                  obtain ⟨x0, e0, h⟩ := vP_elim h
                  obtain ⟨x3A, x3n, x3c, e3, h⟩ := vS_elim h
                  obtain ⟨x4, e4, h⟩ := vI_elim h
                  obtain ⟨x5, e5, h⟩ := vI_elim h
                  obtain ⟨x15, e15, h⟩ := vB_elim h
                  refine J.sub ?_ ((((((Sub.base _).upd e0).upd e3).upd e4).upd e5).upd e15)
                  clear e0 e3 e4 e5 e15
                  exact sh_sound _ _ _ _ (Eq.mp (by kernel_rfl) h)
              · intro σ w h
                obtain ⟨x0, e0, h⟩ := vP_elim h
                obtain ⟨x3A, x3n, x3c, e3, h⟩ := vS_elim h
                obtain ⟨x4, e4, h⟩ := vI_elim h
                obtain ⟨x5, e5, h⟩ := vI_elim h
                refine J.sub ?_ (((((Sub.base _).upd e0).upd e3).upd e4).upd e5)
                clear e0 e3 e4 e5
                refine J_seq (fun σ w => vP (σ 0) fun x0 => vS (σ 3) fun x3A x3n x3c => vI .i64 (σ 4) fun x4 => vI .u64 (σ 5) fun x5 => reloc_Read.p8 (reloc_Read.l0 K k0) K x0 x3A x3n x3c x4 x5 w) ?_ ?_
                ·
                  refine J_block ?_
                  refine J_seq (fun σ w => vP (σ 0) fun x0 => vS (σ 3) fun x3A x3n x3c => vI .u64 (σ 5) fun x5 => vI .i64 (σ 6) fun x6 => reloc_Read.p6 (reloc_Read.l0 K k0) K x0 x3A x3n x3c x5 x6 w) ?_ ?_
                  ·
                    exact sh_sound _ _ _ _ (Eq.mp (by kernel_rfl) h)
                  · intro σ w h
                    obtain ⟨x0, e0, h⟩ := vP_elim h
                    obtain ⟨x3A, x3n, x3c, e3, h⟩ := vS_elim h
                    obtain ⟨x5, e5, h⟩ := vI_elim h
                    obtain ⟨x6, e6, h⟩ := vI_elim h
                    refine J.sub ?_ (((((Sub.base _).upd e0).upd e3).upd e5).upd e6)
                    clear e0 e3 e5 e6
                    refine J_seq (fun σ w => vP (σ 0) fun x0 => vS (σ 3) fun x3A x3n x3c => vI .u64 (σ 5) fun x5 => vI .i64 (σ 6) fun x6 => reloc_Read.p7 (reloc_Read.l0 K k0) K x0 x3A x3n x3c x5 x6 w) ?_ ?_
                    ·
                      exact sh_sound _ _ _ _ (Eq.mp (by kernel_rfl) h)
                    · intro σ w h
                      obtain ⟨x0, e0, h⟩ := vP_elim h
                      obtain ⟨x3A, x3n, x3c, e3, h⟩ := vS_elim h
                      obtain ⟨x5, e5, h⟩ := vI_elim h
                      obtain ⟨x6, e6, h⟩ := vI_elim h
                      refine J.sub ?_ (((((Sub.base _).upd e0).upd e3).upd e5).upd e6)
                      clear e0 e3 e5 e6
                      exact sh_sound _ _ _ _ (Eq.mp (by kernel_rfl) h)
                · intro σ w h
                  obtain ⟨x0, e0, h⟩ := vP_elim h
                  obtain ⟨x3A, x3n, x3c, e3, h⟩ := vS_elim h
                  obtain ⟨x4, e4, h⟩ := vI_elim h
                  obtain ⟨x5, e5, h⟩ := vI_elim h
                  refine J.sub ?_ (((((Sub.base _).upd e0).upd e3).upd e4).upd e5)
                  clear e0 e3 e4 e5
                  exact sh_sound _ _ _ _ (Eq.mp (by kernel_rfl) h)
        · intro σ w h
          obtain ⟨x0, e0, h⟩ := vP_elim h
          obtain ⟨x3A, x3n, x3c, e3, h⟩ := vS_elim h
          refine J.sub ?_ (((Sub.base _).upd e0).upd e3)
          clear e0 e3
          exact sh_sound _ _ _ _ (Eq.mp (by kernel_rfl) h)

/-! ### (*hayloft/num.Reader).Bytes: function 48 -/
abbrev num_Reader_Bytes.p2 (K : Value → World → Prop) (x0 : Option Addr) (x1 : Int) (w : World) : Prop :=
  ∃ (a1 : Addr), x0 = some a1 ∧ ∃ (A2 : Option Addr) (m3 : Nat) (c4 : Nat), w.cell? a1 = some (.slice A2 m3 c4) ∧ condP (decide (((m3 : Nat) : Int) < x1)) (∃ (a5 : Addr), x0 = some a5 ∧ canStore w (a5.add 1) ∧ wlet (w.setCell (a5.add 1) (.int .i64 3)) fun w6 => K (.slice none 0 0) w6) ((0 ≤ x1 ∧ x1 ≤ x1 ∧ (1 : Int) * x1 ≤ 281474976710656 ∧ x1 ≤ 9223372036854775807) ∧ wlet (w.alloc (.cells (madeCells #[.int .u8 0] (x1.toNat * 1)) 5)) fun w7 => ∃ (a8 : Addr), x0 = some a8 ∧ ∃ (A9 : Option Addr) (m10 : Nat) (c11 : Nat), w7.cell? a8 = some (.slice A9 m10 c11) ∧ SemJ Tryd.prog (Builtin.copy_ #[25, 25] 3 #[.slice (some ⟨w.heap.size, 0, none⟩) x1.toNat x1.toNat, .slice A9 m10 c11]) (fun v12 w13 => ∃ (n14 : Int), v12 = .int .i64 n14 ∧ ∃ (a15 : Addr), x0 = some a15 ∧ ∃ (A16 : Option Addr) (m17 : Nat) (c18 : Nat), w13.cell? a15 = some (.slice A16 m17 c18) ∧ (0 ≤ x1 ∧ x1 ≤ ((m17 : Nat) : Int)) ∧ ∃ (a19 : Addr), x0 = some a19 ∧ canStore w13 a19 ∧ wlet (w13.setCell a19 (.slice (slA A16 x1.toNat c18 1) (m17 - x1.toNat) (c18 - x1.toNat))) fun w20 => K (.slice (some ⟨w.heap.size, 0, none⟩) x1.toNat x1.toNat) w20) w7)
abbrev num_Reader_Bytes.p1 (K : Value → World → Prop) (x0 : Option Addr) (x1 : Int) (x18 : Bool) (w : World) : Prop :=
  condP x18 (K (.slice none 0 0) w) (num_Reader_Bytes.p2 K x0 x1 w)
abbrev num_Reader_Bytes.p0 (K : Value → World → Prop) (x0 : Option Addr) (x1 : Int) (w : World) : Prop :=
  condP x0.isNone (num_Reader_Bytes.p1 K x0 x1 true w) (∃ (a21 : Addr), x0 = some a21 ∧ ∃ (n22 : Int), w.cell? (a21.add 1) = some (.int .i64 n22) ∧ condP (n22 != (0 : Int)) (num_Reader_Bytes.p1 K x0 x1 true w) (num_Reader_Bytes.p1 K x0 x1 (decide (x1 ≤ (0 : Int))) w))
abbrev num_Reader_Bytes.F (q0 : Option Addr) (q1 : Int) (K : Value → World → Prop) (w : World) : Prop :=
  num_Reader_Bytes.p0 K q0 q1 w
theorem num_Reader_Bytes.ok {q0 : Option Addr} {q1 : Int} {K : Value → World → Prop} {w : World} (h : num_Reader_Bytes.F q0 q1 K w) :
    CallsE Tryd.prog 48 #[.pointer q0, .int .i64 q1] w K := by
  refine calls_of_J (n := 47) (rs := [.tmp 4]) Tryd.func48 rfl rfl rfl rfl ?_
  refine J_seq (fun σ w => vP (σ 0) fun x0 => vI .i64 (σ 1) fun x1 => num_Reader_Bytes.p0 K x0 x1 w) ?_ ?_
  ·
    exact sh_sound _ _ _ _ (Eq.mp (by kernel_rfl) h)
  · intro σ w h
    obtain ⟨x0, e0, h⟩ := vP_elim h
    obtain ⟨x1, e1, h⟩ := vI_elim h
    refine J.sub ?_ (((Sub.base _).upd e0).upd e1)
    clear e0 e1
    refine J_seq (fun σ w => vP (σ 0) fun x0 => vI .i64 (σ 1) fun x1 => num_Reader_Bytes.p2 K x0 x1 w) ?_ ?_
    ·
      refine J_seq (fun σ w => vP (σ 0) fun x0 => vI .i64 (σ 1) fun x1 => vB (σ 18) fun x18 => num_Reader_Bytes.p1 K x0 x1 x18 w) ?_ ?_
      ·
        exact sh_sound _ _ _ _ (Eq.mp (by kernel_rfl) h)
      · intro σ w h
        obtain ⟨x0, e0, h⟩ := vP_elim h
        obtain ⟨x1, e1, h⟩ := vI_elim h
        obtain ⟨x18, e18, h⟩ := vB_elim h
        refine J.sub ?_ ((((Sub.base _).upd e0).upd e1).upd e18)
        clear e0 e1 e18
        exact sh_sound _ _ _ _ (Eq.mp (by kernel_rfl) h)
    · intro σ w h
      obtain ⟨x0, e0, h⟩ := vP_elim h
      obtain ⟨x1, e1, h⟩ := vI_elim h
      refine J.sub ?_ (((Sub.base _).upd e0).upd e1)
      clear e0 e1
      exact sh_sound _ _ _ _ (Eq.mp (by kernel_rfl) h)

/-! ### (*hayloft/num.Reader).End: function 49 -/
abbrev num_Reader_End.p2 (K : Value → World → Prop) (x0 : Option Addr) (w : World) : Prop :=
  CallsE Tryd.prog 66 #[.pointer x0] w (fun v8 w9 => ∃ (n10 : Int), v8 = .int .i64 n10 ∧ K (.int .i64 n10) w9)
abbrev num_Reader_End.p1 (K : Value → World → Prop) (x0 : Option Addr) (x13 : Bool) (w : World) : Prop :=
  condP x13 (K (.int .i64 6) w) (num_Reader_End.p2 K x0 w)
abbrev num_Reader_End.p0 (K : Value → World → Prop) (x0 : Option Addr) (w : World) : Prop :=
  CallsE Tryd.prog 66 #[.pointer x0] w (fun v1 w2 => ∃ (n3 : Int), v1 = .int .i64 n3 ∧ condP (n3 == (0 : Int)) (∃ (a4 : Addr), x0 = some a4 ∧ ∃ (A5 : Option Addr) (m6 : Nat) (c7 : Nat), w2.cell? a4 = some (.slice A5 m6 c7) ∧ num_Reader_End.p1 K x0 (decide ((0 : Int) < ((m6 : Nat) : Int))) w2) (num_Reader_End.p1 K x0 false w2))
abbrev num_Reader_End.F (q0 : Option Addr) (K : Value → World → Prop) (w : World) : Prop :=
  num_Reader_End.p0 K q0 w
theorem num_Reader_End.ok {q0 : Option Addr} {K : Value → World → Prop} {w : World} (h : num_Reader_End.F q0 K w) :
    CallsE Tryd.prog 49 #[.pointer q0] w K := by
  refine calls_of_J (n := 16) (rs := [.tmp 2]) Tryd.func49 rfl rfl rfl rfl ?_
  refine J_seq (fun σ w => vP (σ 0) fun x0 => num_Reader_End.p0 K x0 w) ?_ ?_
  ·
    exact sh_sound _ _ _ _ (Eq.mp (by kernel_rfl) h)
  · intro σ w h
    obtain ⟨x0, e0, h⟩ := vP_elim h
    refine J.sub ?_ ((Sub.base _).upd e0)
    clear e0
    refine J_seq (fun σ w => vP (σ 0) fun x0 => num_Reader_End.p2 K x0 w) ?_ ?_
    ·
      refine J_seq (fun σ w => vP (σ 0) fun x0 => vB (σ 13) fun x13 => num_Reader_End.p1 K x0 x13 w) ?_ ?_
      ·
        exact sh_sound _ _ _ _ (Eq.mp (by kernel_rfl) h)
      · intro σ w h
        obtain ⟨x0, e0, h⟩ := vP_elim h
        obtain ⟨x13, e13, h⟩ := vB_elim h
        refine J.sub ?_ (((Sub.base _).upd e0).upd e13)
        clear e0 e13
        exact sh_sound _ _ _ _ (Eq.mp (by kernel_rfl) h)
    · intro σ w h
      obtain ⟨x0, e0, h⟩ := vP_elim h
      refine J.sub ?_ ((Sub.base _).upd e0)
      clear e0
      exact sh_sound _ _ _ _ (Eq.mp (by kernel_rfl) h)

/-! ### hayloft/hayloftref10.Same: function 50 -/
abbrev ref10_Same.p1 (K : Value → World → Prop) (x4 : Bool) (w : World) : Prop :=
  K (.bool x4) w
abbrev ref10_Same.p0 (K : Value → World → Prop) (x2 : Addr) (x3 : Addr) (w : World) : Prop :=
  ∃ (n3 : Int), w.cell? x2 = some (.int .i64 n3) ∧ ∃ (n4 : Int), w.cell? x3 = some (.int .i64 n4) ∧ condP (n3 == n4) (∃ (n5 : Int), w.cell? (x2.add 1) = some (.int .i64 n5) ∧ ∃ (n6 : Int), w.cell? (x3.add 1) = some (.int .i64 n6) ∧ condP (n5 == n6) (∃ (n7 : Int), w.cell? (x2.add 2) = some (.int .i64 n7) ∧ ∃ (n8 : Int), w.cell? (x3.add 2) = some (.int .i64 n8) ∧ condP (n7 == n8) (∃ (A9 : Option Addr) (m10 : Nat) (c11 : Nat), w.cell? (x2.add 3) = some (.slice A9 m10 c11) ∧ ∃ (A12 : Option Addr) (m13 : Nat) (c14 : Nat), w.cell? (x3.add 3) = some (.slice A12 m13 c14) ∧ CallsE Tryd.prog 51 #[.slice A9 m10 c11, .slice A12 m13 c14] w (fun v15 w16 => ∃ (b17 : Bool), v15 = .bool b17 ∧ ref10_Same.p1 K b17 w16)) (ref10_Same.p1 K false w)) (ref10_Same.p1 K false w)) (ref10_Same.p1 K false w)
abbrev ref10_Same.F (q0_0 : Int) (q0_1 : Int) (q0_2 : Int) (q0_3A : Option Addr) (q0_3n : Nat) (q0_3c : Nat) (q1_0 : Int) (q1_1 : Int) (q1_2 : Int) (q1_3A : Option Addr) (q1_3n : Nat) (q1_3c : Nat) (K : Value → World → Prop) (w : World) : Prop :=
  wlet (w.alloc (.cells #[.int .i64 q0_0, .int .i64 q0_1, .int .i64 q0_2, .slice q0_3A q0_3n q0_3c] 24)) fun w1 => wlet (w1.alloc (.cells #[.int .i64 q1_0, .int .i64 q1_1, .int .i64 q1_2, .slice q1_3A q1_3n q1_3c] 24)) fun w2 => ref10_Same.p0 K (⟨w.heap.size, 0, none⟩) (⟨w1.heap.size, 0, none⟩) w2
theorem ref10_Same.ok {q0_0 : Int} {q0_1 : Int} {q0_2 : Int} {q0_3A : Option Addr} {q0_3n : Nat} {q0_3c : Nat} {q1_0 : Int} {q1_1 : Int} {q1_2 : Int} {q1_3A : Option Addr} {q1_3n : Nat} {q1_3c : Nat} {K : Value → World → Prop} {w : World} (h : ref10_Same.F q0_0 q0_1 q0_2 q0_3A q0_3n q0_3c q1_0 q1_1 q1_2 q1_3A q1_3n q1_3c K w) :
    CallsE Tryd.prog 50 #[.agg #[.int .i64 q0_0, .int .i64 q0_1, .int .i64 q0_2, .slice q0_3A q0_3n q0_3c], .agg #[.int .i64 q1_0, .int .i64 q1_1, .int .i64 q1_2, .slice q1_3A q1_3n q1_3c]] w K := by
  refine calls_of_J (n := 31) (rs := [.tmp 4]) Tryd.func50 rfl rfl rfl rfl ?_
  refine J_seq (fun σ w => vPa (σ 2) fun x2 => vPa (σ 3) fun x3 => ref10_Same.p0 K x2 x3 w) ?_ ?_
  ·
    exact sh_sound _ _ _ _ (Eq.mp (by kernel_rfl) h)
  · intro σ w h
    obtain ⟨x2, e2, h⟩ := vPa_elim h
    obtain ⟨x3, e3, h⟩ := vPa_elim h
    refine J.sub ?_ (((Sub.base _).upd e2).upd e3)
    clear e2 e3
    refine J_seq (fun σ w => vB (σ 4) fun x4 => ref10_Same.p1 K x4 w) ?_ ?_
    ·
      exact sh_sound _ _ _ _ (Eq.mp (by kernel_rfl) h)
    · intro σ w h
      obtain ⟨x4, e4, h⟩ := vB_elim h
      refine J.sub ?_ ((Sub.base _).upd e4)
      clear e4
      exact sh_sound _ _ _ _ (Eq.mp (by kernel_rfl) h)

/-! ### hayloft/hayloftref01.Ints: function 51 -/
abbrev ref01_Ints.p3 (K : Value → World → Prop) (w : World) : Prop :=
  K (.bool true) w
abbrev ref01_Ints.b0 (L0 : Option Addr → Nat → Nat → Option Addr → Nat → Nat → Int → Int → World → Prop) (K : Value → World → Prop) (x0A : Option Addr) (x0n : Nat) (x0c : Nat) (x1A : Option Addr) (x1n : Nat) (x1c : Nat) (x12 : Int) (x13 : Int) (w : World) : Prop :=
  condP (decide (x13 < x12)) ((0 ≤ x13 ∧ x13 < ((x0n : Nat) : Int)) ∧ ∃ (a1 : Addr), x0A = some a1 ∧ ∃ (n2 : Int), w.cell? (a1.add x13.toNat) = some (.int .i64 n2) ∧ (0 ≤ x13 ∧ x13 < ((x1n : Nat) : Int)) ∧ ∃ (a3 : Addr), x1A = some a3 ∧ ∃ (n4 : Int), w.cell? (a3.add x13.toNat) = some (.int .i64 n4) ∧ condP (n2 != n4) (K (.bool false) w) (L0 x0A x0n x0c x1A x1n x1c x12 (IntKind.wrap .i64 (x13 + (1 : Int))) w)) (ref01_Ints.p3 K w)
def ref01_Ints.l0 (K : Value → World → Prop) (k : Nat) : Option Addr → Nat → Nat → Option Addr → Nat → Nat → Int → Int → World → Prop :=
  Nat.rec (motive := fun _ => Option Addr → Nat → Nat → Option Addr → Nat → Nat → Int → Int → World → Prop) (fun _ _ _ _ _ _ _ _ _ => False) (fun _ ih => ref01_Ints.b0 ih K) k
theorem ref01_Ints.l0_succ (K : Value → World → Prop) (k : Nat) (x0A : Option Addr) (x0n : Nat) (x0c : Nat) (x1A : Option Addr) (x1n : Nat) (x1c : Nat) (x12 : Int) (x13 : Int) (w : World) : ref01_Ints.l0 K (k + 1) x0A x0n x0c x1A x1n x1c x12 x13 w = ref01_Ints.b0 (ref01_Ints.l0 K k) K x0A x0n x0c x1A x1n x1c x12 x13 w := rfl
abbrev ref01_Ints.p2 (K : Value → World → Prop) (x0A : Option Addr) (x0n : Nat) (x0c : Nat) (x1A : Option Addr) (x1n : Nat) (x1c : Nat) (x12 : Int) (x13 : Int) (w : World) : Prop :=
  ∃ k, ref01_Ints.l0 K k x0A x0n x0c x1A x1n x1c x12 x13 w
abbrev ref01_Ints.p1 (K : Value → World → Prop) (x0A : Option Addr) (x0n : Nat) (x0c : Nat) (x1A : Option Addr) (x1n : Nat) (x1c : Nat) (w : World) : Prop :=
  ref01_Ints.p2 K x0A x0n x0c x1A x1n x1c ((x0n : Nat) : Int) 0 w
abbrev ref01_Ints.p0 (K : Value → World → Prop) (x0A : Option Addr) (x0n : Nat) (x0c : Nat) (x1A : Option Addr) (x1n : Nat) (x1c : Nat) (w : World) : Prop :=
  condP (((x0n : Nat) : Int) != ((x1n : Nat) : Int)) (K (.bool false) w) (ref01_Ints.p1 K x0A x0n x0c x1A x1n x1c w)
abbrev ref01_Ints.F (q0A : Option Addr) (q0n : Nat) (q0c : Nat) (q1A : Option Addr) (q1n : Nat) (q1c : Nat) (K : Value → World → Prop) (w : World) : Prop :=
  ref01_Ints.p0 K q0A q0n q0c q1A q1n q1c w
theorem ref01_Ints.ok {q0A : Option Addr} {q0n : Nat} {q0c : Nat} {q1A : Option Addr} {q1n : Nat} {q1c : Nat} {K : Value → World → Prop} {w : World} (h : ref01_Ints.F q0A q0n q0c q1A q1n q1c K w) :
    CallsE Tryd.prog 51 #[.slice q0A q0n q0c, .slice q1A q1n q1c] w K := by
  refine calls_of_J (n := 26) (rs := [.tmp 4]) Tryd.func51 rfl rfl rfl rfl ?_
  refine J_seq (fun σ w => vS (σ 0) fun x0A x0n x0c => vS (σ 1) fun x1A x1n x1c => ref01_Ints.p0 K x0A x0n x0c x1A x1n x1c w) ?_ ?_
  ·
    exact sh_sound _ _ _ _ (Eq.mp (by kernel_rfl) h)
  · intro σ w h
    obtain ⟨x0A, x0n, x0c, e0, h⟩ := vS_elim h
    obtain ⟨x1A, x1n, x1c, e1, h⟩ := vS_elim h
    refine J.sub ?_ (((Sub.base _).upd e0).upd e1)
    clear e0 e1
    refine J_seq (fun σ w => vS (σ 0) fun x0A x0n x0c => vS (σ 1) fun x1A x1n x1c => ref01_Ints.p1 K x0A x0n x0c x1A x1n x1c w) ?_ ?_
    ·
      exact sh_sound _ _ _ _ (Eq.mp (by kernel_rfl) h)
    · intro σ w h
      obtain ⟨x0A, x0n, x0c, e0, h⟩ := vS_elim h
      obtain ⟨x1A, x1n, x1c, e1, h⟩ := vS_elim h
      refine J.sub ?_ (((Sub.base _).upd e0).upd e1)
      clear e0 e1
      refine J_seq (fun σ w => ref01_Ints.p3 K w) ?_ ?_
      ·
        refine J_seq (fun σ w => vS (σ 0) fun x0A x0n x0c => vS (σ 1) fun x1A x1n x1c => vI .i64 (σ 12) fun x12 => vI .i64 (σ 13) fun x13 => ref01_Ints.p2 K x0A x0n x0c x1A x1n x1c x12 x13 w) ?_ ?_
        ·
          exact sh_sound _ _ _ _ (Eq.mp (by kernel_rfl) h)
        · intro σ w h
          obtain ⟨x0A, x0n, x0c, e0, h⟩ := vS_elim h
          obtain ⟨x1A, x1n, x1c, e1, h⟩ := vS_elim h
          obtain ⟨x12, e12, h⟩ := vI_elim h
          obtain ⟨x13, e13, h⟩ := vI_elim h
          refine J.sub ?_ (((((Sub.base _).upd e0).upd e1).upd e12).upd e13)
          clear e0 e1 e12 e13
          refine J_block ?_
          refine J_loop (fun k σ w => vS (σ 0) fun x0A x0n x0c => vS (σ 1) fun x1A x1n x1c => vI .i64 (σ 12) fun x12 => vI .i64 (σ 13) fun x13 => ref01_Ints.l0 K k x0A x0n x0c x1A x1n x1c x12 x13 w) (Eq.mp (by kernel_rfl) h) ?_ ?_
          · intro σ w h
            obtain ⟨x0A, x0n, x0c, e0, h⟩ := vS_elim h
            obtain ⟨x1A, x1n, x1c, e1, h⟩ := vS_elim h
            obtain ⟨x12, e12, h⟩ := vI_elim h
            obtain ⟨x13, e13, h⟩ := vI_elim h
            exact h
          · intro k0 σ w h
            obtain ⟨x0A, x0n, x0c, e0, h⟩ := vS_elim h
            obtain ⟨x1A, x1n, x1c, e1, h⟩ := vS_elim h
            obtain ⟨x12, e12, h⟩ := vI_elim h
            obtain ⟨x13, e13, h⟩ := vI_elim h
            refine J.sub ?_ (((((Sub.base _).upd e0).upd e1).upd e12).upd e13)
            clear e0 e1 e12 e13
            exact sh_sound _ _ _ _ (Eq.mp (by kernel_rfl) h)
      · intro σ w h
        refine J.sub ?_ (Sub.base _)
        exact sh_sound _ _ _ _ (Eq.mp (by kernel_rfl) h)

/-! ### (*hayloft/hayloftref01.Reader).Upto: function 52 -/
abbrev ref01_Reader_Upto.p4 (K : Value → World → Prop) (x6 : Int) (w : World) : Prop :=
  K (.int .u64 x6) w
abbrev ref01_Reader_Upto.p3 (K : Value → World → Prop) (x0 : Option Addr) (x5A : Option Addr) (x5n : Nat) (x5c : Nat) (x6 : Int) (x22 : Bool) (w : World) : Prop :=
  condP x22 (∃ (a10 : Addr), x0 = some a10 ∧ canStore w (a10.add 1) ∧ wlet (w.setCell (a10.add 1) (.int .i64 4)) fun w11 => ∃ (a12 : Addr), x0 = some a12 ∧ canStore w11 a12 ∧ wlet (w11.setCell a12 (.slice x5A x5n x5c)) fun w13 => K (.int .u64 0) w13) (ref01_Reader_Upto.p4 K x6 w)
abbrev ref01_Reader_Upto.p2 (K : Value → World → Prop) (x0 : Option Addr) (x1 : Int) (x5A : Option Addr) (x5n : Nat) (x5c : Nat) (x6 : Int) (w : World) : Prop :=
  ∃ (a8 : Addr), x0 = some a8 ∧ ∃ (n9 : Int), w.cell? (a8.add 1) = some (.int .i64 n9) ∧ condP (n9 == (0 : Int)) (ref01_Reader_Upto.p3 K x0 x5A x5n x5c x6 (decide (x1 < x6)) w) (ref01_Reader_Upto.p3 K x0 x5A x5n x5c x6 false w)
abbrev ref01_Reader_Upto.p1 (K : Value → World → Prop) (x0 : Option Addr) (x1 : Int) (x5A : Option Addr) (x5n : Nat) (x5c : Nat) (w : World) : Prop :=
  CallsE Tryd.prog 70 #[.pointer x0] w (fun v5 w6 => ∃ (n7 : Int), v5 = .int .u64 n7 ∧ ref01_Reader_Upto.p2 K x0 x1 x5A x5n x5c n7 w6)
abbrev ref01_Reader_Upto.p0 (K : Value → World → Prop) (x0 : Option Addr) (x1 : Int) (w : World) : Prop :=
  ∃ (a1 : Addr), x0 = some a1 ∧ ∃ (A2 : Option Addr) (m3 : Nat) (c4 : Nat), w.cell? a1 = some (.slice A2 m3 c4) ∧ ref01_Reader_Upto.p1 K x0 x1 A2 m3 c4 w
abbrev ref01_Reader_Upto.F (q0 : Option Addr) (q1 : Int) (K : Value → World → Prop) (w : World) : Prop :=
  ref01_Reader_Upto.p0 K q0 q1 w
theorem ref01_Reader_Upto.ok {q0 : Option Addr} {q1 : Int} {K : Value → World → Prop} {w : World} (h : ref01_Reader_Upto.F q0 q1 K w) :
    CallsE Tryd.prog 52 #[.pointer q0, .int .u64 q1] w K := by
  refine calls_of_J (n := 31) (rs := [.tmp 4]) Tryd.func52 rfl rfl rfl rfl ?_
  refine J_seq (fun σ w => vP (σ 0) fun x0 => vI .u64 (σ 1) fun x1 => ref01_Reader_Upto.p0 K x0 x1 w) ?_ ?_
  ·
    exact sh_sound _ _ _ _ (Eq.mp (by kernel_rfl) h)
  · intro σ w h
    obtain ⟨x0, e0, h⟩ := vP_elim h
    obtain ⟨x1, e1, h⟩ := vI_elim h
    refine J.sub ?_ (((Sub.base _).upd e0).upd e1)
    clear e0 e1
    refine J_seq (fun σ w => vP (σ 0) fun x0 => vI .u64 (σ 1) fun x1 => vS (σ 5) fun x5A x5n x5c => ref01_Reader_Upto.p1 K x0 x1 x5A x5n x5c w) ?_ ?_
    ·
      exact sh_sound _ _ _ _ (Eq.mp (by kernel_rfl) h)
    · intro σ w h
      obtain ⟨x0, e0, h⟩ := vP_elim h
      obtain ⟨x1, e1, h⟩ := vI_elim h
      obtain ⟨x5A, x5n, x5c, e5, h⟩ := vS_elim h
      refine J.sub ?_ ((((Sub.base _).upd e0).upd e1).upd e5)
      clear e0 e1 e5
      refine J_seq (fun σ w => vP (σ 0) fun x0 => vI .u64 (σ 1) fun x1 => vS (σ 5) fun x5A x5n x5c => vI .u64 (σ 6) fun x6 => ref01_Reader_Upto.p2 K x0 x1 x5A x5n x5c x6 w) ?_ ?_
      ·
        exact sh_sound _ _ _ _ (Eq.mp (by kernel_rfl) h)
      · intro σ w h
        obtain ⟨x0, e0, h⟩ := vP_elim h
        obtain ⟨x1, e1, h⟩ := vI_elim h
        obtain ⟨x5A, x5n, x5c, e5, h⟩ := vS_elim h
        obtain ⟨x6, e6, h⟩ := vI_elim h
        refine J.sub ?_ (((((Sub.base _).upd e0).upd e1).upd e5).upd e6)
        clear e0 e1 e5 e6
        refine J_seq (fun σ w => vI .u64 (σ 6) fun x6 => ref01_Reader_Upto.p4 K x6 w) ?_ ?_
        ·
          refine J_seq (fun σ w => vP (σ 0) fun x0 => vS (σ 5) fun x5A x5n x5c => vI .u64 (σ 6) fun x6 => vB (σ 22) fun x22 => ref01_Reader_Upto.p3 K x0 x5A x5n x5c x6 x22 w) ?_ ?_
          ·
            exact sh_sound _ _ _ _ (Eq.mp (by kernel_rfl) h)
          · intro σ w h
            obtain ⟨x0, e0, h⟩ := vP_elim h
            obtain ⟨x5A, x5n, x5c, e5, h⟩ := vS_elim h
            obtain ⟨x6, e6, h⟩ := vI_elim h
            obtain ⟨x22, e22, h⟩ := vB_elim h
            refine J.sub ?_ (((((Sub.base _).upd e0).upd e5).upd e6).upd e22)
            clear e0 e5 e6 e22
            exact sh_sound _ _ _ _ (Eq.mp (by kernel_rfl) h)
        · intro σ w h
          obtain ⟨x6, e6, h⟩ := vI_elim h
          refine J.sub ?_ ((Sub.base _).upd e6)
          clear e6
          exact sh_sound _ _ _ _ (Eq.mp (by kernel_rfl) h)

/-! ### hayloft/hayloftref10.New: function 53 -/
abbrev ref10_New.p6 (K : Value → World → Prop) (x0 : Int) (x1 : Int) (x2 : Int) (w : World) : Prop :=
  CallsE Tryd.prog 31 #[.int .i64 x1] w (fun v1 w2 => ∃ (n3 : Int), v1 = .int .i64 n3 ∧ (0 ≤ n3 ∧ n3 ≤ n3 ∧ (1 : Int) * n3 ≤ 281474976710656 ∧ n3 ≤ 9223372036854775807) ∧ wlet (w2.alloc (.cells (madeCells #[.bool false] (n3.toNat * 1)) 4)) fun w4 => wlet (w4.alloc (.cells #[.int .i64 x0, .int .i64 x1, .int .i64 x2, .slice (some ⟨w2.heap.size, 0, none⟩) n3.toNat n3.toNat] 103)) fun w5 => K (.tuple #[.pointer (some (⟨w4.heap.size, 0, none⟩)), .int .i64 0]) w5)
abbrev ref10_New.p5 (K : Value → World → Prop) (x0 : Int) (x1 : Int) (x2 : Int) (x38 : Bool) (w : World) : Prop :=
  condP x38 (K (.tuple #[.pointer none, .int .i64 10]) w) (ref10_New.p6 K x0 x1 x2 w)
abbrev ref10_New.p4 (K : Value → World → Prop) (x0 : Int) (x1 : Int) (x2 : Int) (w : World) : Prop :=
  condP (decide (x0 < (0 : Int))) (ref10_New.p5 K x0 x1 x2 true w) (CallsE Tryd.prog 72 #[.int .i64 x1, .int .i64 x2] w (fun v6 w7 => ∃ (n8 : Int), v6 = .int .i64 n8 ∧ ref10_New.p5 K x0 x1 x2 (decide ((IntKind.wrap .i64 ((4096 : Int) - n8)) < x0)) w7))
abbrev ref10_New.p3 (K : Value → World → Prop) (x0 : Int) (x1 : Int) (x2 : Int) (x28 : Bool) (w : World) : Prop :=
  condP x28 (K (.tuple #[.pointer none, .int .i64 2]) w) (ref10_New.p4 K x0 x1 x2 w)
abbrev ref10_New.p2 (K : Value → World → Prop) (x0 : Int) (x1 : Int) (x2 : Int) (w : World) : Prop :=
  condP (decide (x1 < (7 : Int))) (condP (x2 != (0 : Int)) (ref10_New.p3 K x0 x1 x2 true w) (condP (x1 == (7 : Int)) (CallsE Tryd.prog 71 #[.int .i64 x2] w (fun v9 w10 => ∃ (n11 : Int), v9 = .int .i64 n11 ∧ ref10_New.p3 K x0 x1 x2 (n11 != (7 : Int)) w10)) (ref10_New.p3 K x0 x1 x2 false w))) (condP (x1 == (7 : Int)) (CallsE Tryd.prog 71 #[.int .i64 x2] w (fun v12 w13 => ∃ (n14 : Int), v12 = .int .i64 n14 ∧ ref10_New.p3 K x0 x1 x2 (n14 != (7 : Int)) w13)) (ref10_New.p3 K x0 x1 x2 false w))
abbrev ref10_New.p1 (K : Value → World → Prop) (x0 : Int) (x1 : Int) (x2 : Int) (x13 : Bool) (w : World) : Prop :=
  condP x13 (K (.tuple #[.pointer none, .int .i64 11]) w) (ref10_New.p2 K x0 x1 x2 w)
abbrev ref10_New.p0 (K : Value → World → Prop) (x0 : Int) (x1 : Int) (x2 : Int) (w : World) : Prop :=
  condP (decide (x1 < (0 : Int))) (ref10_New.p1 K x0 x1 x2 true w) (ref10_New.p1 K x0 x1 x2 (decide ((7 : Int) < x1)) w)
abbrev ref10_New.F (q0 : Int) (q1 : Int) (q2 : Int) (K : Value → World → Prop) (w : World) : Prop :=
  ref10_New.p0 K q0 q1 q2 w
theorem ref10_New.ok {q0 : Int} {q1 : Int} {q2 : Int} {K : Value → World → Prop} {w : World} (h : ref10_New.F q0 q1 q2 K w) :
    CallsE Tryd.prog 53 #[.int .i64 q0, .int .i64 q1, .int .i64 q2] w K := by
  refine calls_of_J (n := 47) (rs := [.tmp 6, .tmp 7]) Tryd.func53 rfl rfl rfl rfl ?_
  refine J_seq (fun σ w => vI .i64 (σ 0) fun x0 => vI .i64 (σ 1) fun x1 => vI .i64 (σ 2) fun x2 => ref10_New.p0 K x0 x1 x2 w) ?_ ?_
  ·
    exact sh_sound _ _ _ _ (Eq.mp (by kernel_rfl) h)
  · intro σ w h
    obtain ⟨x0, e0, h⟩ := vI_elim h
    obtain ⟨x1, e1, h⟩ := vI_elim h
    obtain ⟨x2, e2, h⟩ := vI_elim h
    refine J.sub ?_ ((((Sub.base _).upd e0).upd e1).upd e2)
    clear e0 e1 e2
    refine J_seq (fun σ w => vI .i64 (σ 0) fun x0 => vI .i64 (σ 1) fun x1 => vI .i64 (σ 2) fun x2 => ref10_New.p2 K x0 x1 x2 w) ?_ ?_
    ·
      refine J_seq (fun σ w => vI .i64 (σ 0) fun x0 => vI .i64 (σ 1) fun x1 => vI .i64 (σ 2) fun x2 => vB (σ 13) fun x13 => ref10_New.p1 K x0 x1 x2 x13 w) ?_ ?_
      ·
        exact sh_sound _ _ _ _ (Eq.mp (by kernel_rfl) h)
      · intro σ w h
        obtain ⟨x0, e0, h⟩ := vI_elim h
        obtain ⟨x1, e1, h⟩ := vI_elim h
        obtain ⟨x2, e2, h⟩ := vI_elim h
        obtain ⟨x13, e13, h⟩ := vB_elim h
        refine J.sub ?_ (((((Sub.base _).upd e0).upd e1).upd e2).upd e13)
        clear e0 e1 e2 e13
        exact sh_sound _ _ _ _ (Eq.mp (by kernel_rfl) h)
    · intro σ w h
      obtain ⟨x0, e0, h⟩ := vI_elim h
      obtain ⟨x1, e1, h⟩ := vI_elim h
      obtain ⟨x2, e2, h⟩ := vI_elim h
      refine J.sub ?_ ((((Sub.base _).upd e0).upd e1).upd e2)
      clear e0 e1 e2
      refine J_seq (fun σ w => vI .i64 (σ 0) fun x0 => vI .i64 (σ 1) fun x1 => vI .i64 (σ 2) fun x2 => ref10_New.p4 K x0 x1 x2 w) ?_ ?_
      ·
        refine J_seq (fun σ w => vI .i64 (σ 0) fun x0 => vI .i64 (σ 1) fun x1 => vI .i64 (σ 2) fun x2 => vB (σ 28) fun x28 => ref10_New.p3 K x0 x1 x2 x28 w) ?_ ?_
        ·
          exact sh_sound _ _ _ _ (Eq.mp (by kernel_rfl) h)
        · intro σ w h
          obtain ⟨x0, e0, h⟩ := vI_elim h
          obtain ⟨x1, e1, h⟩ := vI_elim h
          obtain ⟨x2, e2, h⟩ := vI_elim h
          obtain ⟨x28, e28, h⟩ := vB_elim h
          refine J.sub ?_ (((((Sub.base _).upd e0).upd e1).upd e2).upd e28)
          clear e0 e1 e2 e28
          exact sh_sound _ _ _ _ (Eq.mp (by kernel_rfl) h)
      · intro σ w h
        obtain ⟨x0, e0, h⟩ := vI_elim h
        obtain ⟨x1, e1, h⟩ := vI_elim h
        obtain ⟨x2, e2, h⟩ := vI_elim h
        refine J.sub ?_ ((((Sub.base _).upd e0).upd e1).upd e2)
        clear e0 e1 e2
        refine J_seq (fun σ w => vI .i64 (σ 0) fun x0 => vI .i64 (σ 1) fun x1 => vI .i64 (σ 2) fun x2 => ref10_New.p6 K x0 x1 x2 w) ?_ ?_
        ·
          refine J_seq (fun σ w => vI .i64 (σ 0) fun x0 => vI .i64 (σ 1) fun x1 => vI .i64 (σ 2) fun x2 => vB (σ 38) fun x38 => ref10_New.p5 K x0 x1 x2 x38 w) ?_ ?_
          ·
            exact sh_sound _ _ _ _ (Eq.mp (by kernel_rfl) h)
          · intro σ w h
            obtain ⟨x0, e0, h⟩ := vI_elim h
            obtain ⟨x1, e1, h⟩ := vI_elim h
            obtain ⟨x2, e2, h⟩ := vI_elim h
            obtain ⟨x38, e38, h⟩ := vB_elim h
            refine J.sub ?_ (((((Sub.base _).upd e0).upd e1).upd e2).upd e38)
            clear e0 e1 e2 e38
            exact sh_sound _ _ _ _ (Eq.mp (by kernel_rfl) h)
        · intro σ w h
          obtain ⟨x0, e0, h⟩ := vI_elim h
          obtain ⟨x1, e1, h⟩ := vI_elim h
          obtain ⟨x2, e2, h⟩ := vI_elim h
          refine J.sub ?_ ((((Sub.base _).upd e0).upd e1).upd e2)
          clear e0 e1 e2
          exact sh_sound _ _ _ _ (Eq.mp (by kernel_rfl) h)

/-! ### (*hayloft/hayloftref01.Reader).Bytes: function 54 -/
abbrev ref01_Reader_Bytes.p2 (K : Value → World → Prop) (x0 : Option Addr) (x1 : Int) (w : World) : Prop :=
  ∃ (a3 : Addr), x0 = some a3 ∧ ∃ (A4 : Option Addr) (m5 : Nat) (c6 : Nat), w.cell? a3 = some (.slice A4 m5 c6) ∧ condP (decide (((m5 : Nat) : Int) < x1)) (∃ (a7 : Addr), x0 = some a7 ∧ canStore w (a7.add 1) ∧ wlet (w.setCell (a7.add 1) (.int .i64 3)) fun w8 => K (.slice none 0 0) w8) (wlet (w.alloc (.cells #[] 5)) fun w9 => ∃ (a10 : Addr), x0 = some a10 ∧ ∃ (A11 : Option Addr) (m12 : Nat) (c13 : Nat), w9.cell? a10 = some (.slice A11 m12 c13) ∧ (0 ≤ x1 ∧ x1 ≤ ((c13 : Nat) : Int)) ∧ SemJ Tryd.prog (Builtin.append_ #[25, 25] 25 #[.slice (some ⟨w.heap.size, 0, none⟩) 0 0, .slice (slA A11 0 c13 1) (x1.toNat - 0) (c13 - 0)]) (fun v14 w15 => ∃ (A16 : Option Addr) (m17 : Nat) (c18 : Nat), v14 = .slice A16 m17 c18 ∧ ∃ (a19 : Addr), x0 = some a19 ∧ ∃ (A20 : Option Addr) (m21 : Nat) (c22 : Nat), w15.cell? a19 = some (.slice A20 m21 c22) ∧ (0 ≤ x1 ∧ x1 ≤ ((m21 : Nat) : Int)) ∧ ∃ (a23 : Addr), x0 = some a23 ∧ canStore w15 a23 ∧ wlet (w15.setCell a23 (.slice (slA A20 x1.toNat c22 1) (m21 - x1.toNat) (c22 - x1.toNat))) fun w24 => K (.slice A16 m17 c18) w24) w9)
abbrev ref01_Reader_Bytes.p1 (K : Value → World → Prop) (x0 : Option Addr) (x1 : Int) (x14 : Bool) (w : World) : Prop :=
  condP x14 (K (.slice none 0 0) w) (ref01_Reader_Bytes.p2 K x0 x1 w)
abbrev ref01_Reader_Bytes.p0 (K : Value → World → Prop) (x0 : Option Addr) (x1 : Int) (w : World) : Prop :=
  ∃ (a1 : Addr), x0 = some a1 ∧ ∃ (n2 : Int), w.cell? (a1.add 1) = some (.int .i64 n2) ∧ condP (n2 != (0 : Int)) (ref01_Reader_Bytes.p1 K x0 x1 true w) (ref01_Reader_Bytes.p1 K x0 x1 (decide (x1 ≤ (0 : Int))) w)
abbrev ref01_Reader_Bytes.F (q0 : Option Addr) (q1 : Int) (K : Value → World → Prop) (w : World) : Prop :=
  ref01_Reader_Bytes.p0 K q0 q1 w
theorem ref01_Reader_Bytes.ok {q0 : Option Addr} {q1 : Int} {K : Value → World → Prop} {w : World} (h : ref01_Reader_Bytes.F q0 q1 K w) :
    CallsE Tryd.prog 54 #[.pointer q0, .int .i64 q1] w K := by
  refine calls_of_J (n := 43) (rs := [.tmp 4]) Tryd.func54 rfl rfl rfl rfl ?_
  refine J_seq (fun σ w => vP (σ 0) fun x0 => vI .i64 (σ 1) fun x1 => ref01_Reader_Bytes.p0 K x0 x1 w) ?_ ?_
  ·
    exact sh_sound _ _ _ _ (Eq.mp (by kernel_rfl) h)
  · intro σ w h
    obtain ⟨x0, e0, h⟩ := vP_elim h
    obtain ⟨x1, e1, h⟩ := vI_elim h
    refine J.sub ?_ (((Sub.base _).upd e0).upd e1)
    clear e0 e1
    refine J_seq (fun σ w => vP (σ 0) fun x0 => vI .i64 (σ 1) fun x1 => ref01_Reader_Bytes.p2 K x0 x1 w) ?_ ?_
    ·
      refine J_seq (fun σ w => vP (σ 0) fun x0 => vI .i64 (σ 1) fun x1 => vB (σ 14) fun x14 => ref01_Reader_Bytes.p1 K x0 x1 x14 w) ?_ ?_
      ·
        exact sh_sound _ _ _ _ (Eq.mp (by kernel_rfl) h)
      · intro σ w h
        obtain ⟨x0, e0, h⟩ := vP_elim h
        obtain ⟨x1, e1, h⟩ := vI_elim h
        obtain ⟨x14, e14, h⟩ := vB_elim h
        refine J.sub ?_ ((((Sub.base _).upd e0).upd e1).upd e14)
        clear e0 e1 e14
        exact sh_sound _ _ _ _ (Eq.mp (by kernel_rfl) h)
    · intro σ w h
      obtain ⟨x0, e0, h⟩ := vP_elim h
      obtain ⟨x1, e1, h⟩ := vI_elim h
      refine J.sub ?_ (((Sub.base _).upd e0).upd e1)
      clear e0 e1
      exact sh_sound _ _ _ _ (Eq.mp (by kernel_rfl) h)

/-! ### hayloft/hayloftref03.Read: function 55 -/
abbrev ref03_Read.p15 (L1 : Int → Option Addr → Nat → Nat → Option Addr → Int → Int → Int → Int → Int → World → Prop) (L0 : Int → Option Addr → Nat → Nat → Option Addr → Int → Int → World → Prop) (K : Value → World → Prop) (x0 : Int) (x1A : Option Addr) (x1n : Nat) (x1c : Nat) (x7 : Option Addr) (x8 : Int) (x9 : Int) (x10 : Int) (x31 : Int) (x32 : Int) (w : World) : Prop :=
  L1 x0 x1A x1n x1c x7 x8 x9 (IntKind.wrap .i64 (x10 + (1 : Int))) x31 x32 w
abbrev ref03_Read.p14 (L1 : Int → Option Addr → Nat → Nat → Option Addr → Int → Int → Int → Int → Int → World → Prop) (L0 : Int → Option Addr → Nat → Nat → Option Addr → Int → Int → World → Prop) (K : Value → World → Prop) (x0 : Int) (x1A : Option Addr) (x1n : Nat) (x1c : Nat) (x7 : Option Addr) (x8 : Int) (x9 : Int) (x10 : Int) (x31 : Int) (x32 : Int) (w : World) : Prop :=
  (2 : Int) ≠ 0 ∧ ref03_Read.p15 L1 L0 K x0 x1A x1n x1c x7 x8 (IntKind.wrap .i64 (Int.tdiv x9 2)) x10 x31 x32 w
abbrev ref03_Read.p13 (L1 : Int → Option Addr → Nat → Nat → Option Addr → Int → Int → Int → Int → Int → World → Prop) (L0 : Int → Option Addr → Nat → Nat → Option Addr → Int → Int → World → Prop) (K : Value → World → Prop) (x0 : Int) (x1A : Option Addr) (x1n : Nat) (x1c : Nat) (x7 : Option Addr) (x8 : Int) (x9 : Int) (x10 : Int) (x31 : Int) (x32 : Int) (w : World) : Prop :=
  (2 : Int) ≠ 0 ∧ condP ((Int.tmod x9 2) == (1 : Int)) (condP (decide (x0 ≤ (IntKind.wrap .i64 ((IntKind.wrap .i64 ((8 : Int) * x8)) + x10)))) (K (.tuple #[.pointer none, .int .i64 4]) w) (∃ (a6 : Addr), x7 = some a6 ∧ ∃ (A7 : Option Addr) (m8 : Nat) (c9 : Nat), w.cell? a6 = some (.slice A7 m8 c9) ∧ (0 ≤ (IntKind.wrap .i64 ((IntKind.wrap .i64 ((8 : Int) * x8)) + x10)) ∧ (IntKind.wrap .i64 ((IntKind.wrap .i64 ((8 : Int) * x8)) + x10)) < ((m8 : Nat) : Int)) ∧ ∃ (a10 : Addr), A7 = some a10 ∧ canStore w (a10.add ((IntKind.wrap .i64 ((IntKind.wrap .i64 ((8 : Int) * x8)) + x10)).toNat)) ∧ wlet (w.setCell (a10.add ((IntKind.wrap .i64 ((IntKind.wrap .i64 ((8 : Int) * x8)) + x10)).toNat)) (.bool true)) fun w11 => ref03_Read.p14 L1 L0 K x0 x1A x1n x1c x7 x8 x9 x10 x31 x32 w11)) (ref03_Read.p14 L1 L0 K x0 x1A x1n x1c x7 x8 x9 x10 x31 x32 w)
abbrev ref03_Read.p16 (L0 : Int → Option Addr → Nat → Nat → Option Addr → Int → Int → World → Prop) (K : Value → World → Prop) (x0 : Int) (x1A : Option Addr) (x1n : Nat) (x1c : Nat) (x7 : Option Addr) (x31 : Int) (x32 : Int) (w : World) : Prop :=
  L0 x0 x1A x1n x1c x7 x31 (IntKind.wrap .i64 (x32 + (1 : Int))) w
abbrev ref03_Read.b1 (L1 : Int → Option Addr → Nat → Nat → Option Addr → Int → Int → Int → Int → Int → World → Prop) (L0 : Int → Option Addr → Nat → Nat → Option Addr → Int → Int → World → Prop) (K : Value → World → Prop) (x0 : Int) (x1A : Option Addr) (x1n : Nat) (x1c : Nat) (x7 : Option Addr) (x8 : Int) (x9 : Int) (x10 : Int) (x31 : Int) (x32 : Int) (w : World) : Prop :=
  condP (decide (x10 < (8 : Int))) (ref03_Read.p13 L1 L0 K x0 x1A x1n x1c x7 x8 x9 x10 x31 x32 w) (ref03_Read.p16 L0 K x0 x1A x1n x1c x7 x31 x32 w)
def ref03_Read.l1 (L0 : Int → Option Addr → Nat → Nat → Option Addr → Int → Int → World → Prop) (K : Value → World → Prop) (k : Nat) : Int → Option Addr → Nat → Nat → Option Addr → Int → Int → Int → Int → Int → World → Prop :=
  Nat.rec (motive := fun _ => Int → Option Addr → Nat → Nat → Option Addr → Int → Int → Int → Int → Int → World → Prop) (fun _ _ _ _ _ _ _ _ _ _ _ => False) (fun _ ih => ref03_Read.b1 ih L0 K) k
theorem ref03_Read.l1_succ (L0 : Int → Option Addr → Nat → Nat → Option Addr → Int → Int → World → Prop) (K : Value → World → Prop) (k : Nat) (x0 : Int) (x1A : Option Addr) (x1n : Nat) (x1c : Nat) (x7 : Option Addr) (x8 : Int) (x9 : Int) (x10 : Int) (x31 : Int) (x32 : Int) (w : World) : ref03_Read.l1 L0 K (k + 1) x0 x1A x1n x1c x7 x8 x9 x10 x31 x32 w = ref03_Read.b1 (ref03_Read.l1 L0 K k) L0 K x0 x1A x1n x1c x7 x8 x9 x10 x31 x32 w := rfl
abbrev ref03_Read.p12 (L0 : Int → Option Addr → Nat → Nat → Option Addr → Int → Int → World → Prop) (K : Value → World → Prop) (x0 : Int) (x1A : Option Addr) (x1n : Nat) (x1c : Nat) (x7 : Option Addr) (x8 : Int) (x9 : Int) (x10 : Int) (x31 : Int) (x32 : Int) (w : World) : Prop :=
  ∃ k, ref03_Read.l1 L0 K k x0 x1A x1n x1c x7 x8 x9 x10 x31 x32 w
abbrev ref03_Read.p11 (L0 : Int → Option Addr → Nat → Nat → Option Addr → Int → Int → World → Prop) (K : Value → World → Prop) (x0 : Int) (x1A : Option Addr) (x1n : Nat) (x1c : Nat) (x7 : Option Addr) (x8 : Int) (x9 : Int) (x31 : Int) (x32 : Int) (w : World) : Prop :=
  ref03_Read.p12 L0 K x0 x1A x1n x1c x7 x8 x9 0 x31 x32 w
abbrev ref03_Read.p10 (L0 : Int → Option Addr → Nat → Nat → Option Addr → Int → Int → World → Prop) (K : Value → World → Prop) (x0 : Int) (x1A : Option Addr) (x1n : Nat) (x1c : Nat) (x7 : Option Addr) (x8 : Int) (x31 : Int) (x32 : Int) (w : World) : Prop :=
  (0 ≤ x8 ∧ x8 < ((x1n : Nat) : Int)) ∧ ∃ (a4 : Addr), x1A = some a4 ∧ ∃ (n5 : Int), w.cell? (a4.add x8.toNat) = some (.int .u8 n5) ∧ ref03_Read.p11 L0 K x0 x1A x1n x1c x7 x8 (IntKind.wrap .i64 n5) x31 x32 w
abbrev ref03_Read.p9 (L0 : Int → Option Addr → Nat → Nat → Option Addr → Int → Int → World → Prop) (K : Value → World → Prop) (x0 : Int) (x1A : Option Addr) (x1n : Nat) (x1c : Nat) (x7 : Option Addr) (x31 : Int) (x32 : Int) (w : World) : Prop :=
  ref03_Read.p10 L0 K x0 x1A x1n x1c x7 x32 x31 x32 w
abbrev ref03_Read.p17 (K : Value → World → Prop) (x7 : Option Addr) (w : World) : Prop :=
  K (.tuple #[.pointer x7, .int .i64 0]) w
abbrev ref03_Read.p8 (L0 : Int → Option Addr → Nat → Nat → Option Addr → Int → Int → World → Prop) (K : Value → World → Prop) (x0 : Int) (x1A : Option Addr) (x1n : Nat) (x1c : Nat) (x7 : Option Addr) (x31 : Int) (x32 : Int) (x33 : Bool) (w : World) : Prop :=
  condP x33 (ref03_Read.p9 L0 K x0 x1A x1n x1c x7 x31 x32 w) (ref03_Read.p17 K x7 w)
abbrev ref03_Read.b0 (L0 : Int → Option Addr → Nat → Nat → Option Addr → Int → Int → World → Prop) (K : Value → World → Prop) (x0 : Int) (x1A : Option Addr) (x1n : Nat) (x1c : Nat) (x7 : Option Addr) (x31 : Int) (x32 : Int) (w : World) : Prop :=
  ref03_Read.p8 L0 K x0 x1A x1n x1c x7 x31 x32 (decide (x32 < x31)) w
def ref03_Read.l0 (K : Value → World → Prop) (k : Nat) : Int → Option Addr → Nat → Nat → Option Addr → Int → Int → World → Prop :=
  Nat.rec (motive := fun _ => Int → Option Addr → Nat → Nat → Option Addr → Int → Int → World → Prop) (fun _ _ _ _ _ _ _ _ => False) (fun _ ih => ref03_Read.b0 ih K) k
theorem ref03_Read.l0_succ (K : Value → World → Prop) (k : Nat) (x0 : Int) (x1A : Option Addr) (x1n : Nat) (x1c : Nat) (x7 : Option Addr) (x31 : Int) (x32 : Int) (w : World) : ref03_Read.l0 K (k + 1) x0 x1A x1n x1c x7 x31 x32 w = ref03_Read.b0 (ref03_Read.l0 K k) K x0 x1A x1n x1c x7 x31 x32 w := rfl
abbrev ref03_Read.p7 (K : Value → World → Prop) (x0 : Int) (x1A : Option Addr) (x1n : Nat) (x1c : Nat) (x7 : Option Addr) (x31 : Int) (x32 : Int) (w : World) : Prop :=
  ∃ k, ref03_Read.l0 K k x0 x1A x1n x1c x7 x31 x32 w
abbrev ref03_Read.p6 (K : Value → World → Prop) (x0 : Int) (x1A : Option Addr) (x1n : Nat) (x1c : Nat) (x7 : Option Addr) (w : World) : Prop :=
  ref03_Read.p7 K x0 x1A x1n x1c x7 ((x1n : Nat) : Int) 0 w
abbrev ref03_Read.p5 (K : Value → World → Prop) (x0 : Int) (x1A : Option Addr) (x1n : Nat) (x1c : Nat) (w : World) : Prop :=
  CallsE Tryd.prog 30 #[.int .i64 x0] w (fun v1 w2 => ∃ (p3 : Option Addr), v1 = .pointer p3 ∧ ref03_Read.p6 K x0 x1A x1n x1c p3 w2)
abbrev ref03_Read.p4 (K : Value → World → Prop) (x0 : Int) (x1A : Option Addr) (x1n : Nat) (x1c : Nat) (x6 : Int) (w : World) : Prop :=
  condP (decide (x6 < ((x1n : Nat) : Int))) (K (.tuple #[.pointer none, .int .i64 6]) w) (ref03_Read.p5 K x0 x1A x1n x1c w)
abbrev ref03_Read.p3 (K : Value → World → Prop) (x0 : Int) (x1A : Option Addr) (x1n : Nat) (x1c : Nat) (x6 : Int) (w : World) : Prop :=
  condP (decide (((x1n : Nat) : Int) < x6)) (K (.tuple #[.pointer none, .int .i64 3]) w) (ref03_Read.p4 K x0 x1A x1n x1c x6 w)
abbrev ref03_Read.p2 (K : Value → World → Prop) (x0 : Int) (x1A : Option Addr) (x1n : Nat) (x1c : Nat) (w : World) : Prop :=
  (8 : Int) ≠ 0 ∧ ref03_Read.p3 K x0 x1A x1n x1c (IntKind.wrap .i64 (Int.tdiv (IntKind.wrap .i64 (x0 + (7 : Int))) 8)) w
abbrev ref03_Read.p1 (K : Value → World → Prop) (x0 : Int) (x1A : Option Addr) (x1n : Nat) (x1c : Nat) (x16 : Bool) (w : World) : Prop :=
  condP x16 (K (.tuple #[.pointer none, .int .i64 2]) w) (ref03_Read.p2 K x0 x1A x1n x1c w)
abbrev ref03_Read.p0 (K : Value → World → Prop) (x0 : Int) (x1A : Option Addr) (x1n : Nat) (x1c : Nat) (w : World) : Prop :=
  condP (decide (x0 < (0 : Int))) (ref03_Read.p1 K x0 x1A x1n x1c true w) (ref03_Read.p1 K x0 x1A x1n x1c (decide ((65536 : Int) < x0)) w)
abbrev ref03_Read.F (q0 : Int) (q1A : Option Addr) (q1n : Nat) (q1c : Nat) (K : Value → World → Prop) (w : World) : Prop :=
  ref03_Read.p0 K q0 q1A q1n q1c w
theorem ref03_Read.ok {q0 : Int} {q1A : Option Addr} {q1n : Nat} {q1c : Nat} {K : Value → World → Prop} {w : World} (h : ref03_Read.F q0 q1A q1n q1c K w) :
    CallsE Tryd.prog 55 #[.int .i64 q0, .slice q1A q1n q1c] w K := by
  refine calls_of_J (n := 66) (rs := [.tmp 4, .tmp 5]) Tryd.func55 rfl rfl rfl rfl ?_
  refine J_seq (fun σ w => vI .i64 (σ 0) fun x0 => vS (σ 1) fun x1A x1n x1c => ref03_Read.p0 K x0 x1A x1n x1c w) ?_ ?_
  ·
    exact sh_sound _ _ _ _ (Eq.mp (by kernel_rfl) h)
  · intro σ w h
    obtain ⟨x0, e0, h⟩ := vI_elim h
    obtain ⟨x1A, x1n, x1c, e1, h⟩ := vS_elim h
    refine J.sub ?_ (((Sub.base _).upd e0).upd e1)
    clear e0 e1
    refine J_seq (fun σ w => vI .i64 (σ 0) fun x0 => vS (σ 1) fun x1A x1n x1c => ref03_Read.p2 K x0 x1A x1n x1c w) ?_ ?_
    ·
      refine J_seq (fun σ w => vI .i64 (σ 0) fun x0 => vS (σ 1) fun x1A x1n x1c => vB (σ 16) fun x16 => ref03_Read.p1 K x0 x1A x1n x1c x16 w) ?_ ?_
      ·
        exact sh_sound _ _ _ _ (Eq.mp (by kernel_rfl) h)
      · intro σ w h
        obtain ⟨x0, e0, h⟩ := vI_elim h
        obtain ⟨x1A, x1n, x1c, e1, h⟩ := vS_elim h
        obtain ⟨x16, e16, h⟩ := vB_elim h
        refine J.sub ?_ ((((Sub.base _).upd e0).upd e1).upd e16)
        clear e0 e1 e16
        exact sh_sound _ _ _ _ (Eq.mp (by kernel_rfl) h)
    · intro σ w h
      obtain ⟨x0, e0, h⟩ := vI_elim h
      obtain ⟨x1A, x1n, x1c, e1, h⟩ := vS_elim h
      refine J.sub ?_ (((Sub.base _).upd e0).upd e1)
      clear e0 e1
      refine J_seq (fun σ w => vI .i64 (σ 0) fun x0 => vS (σ 1) fun x1A x1n x1c => vI .i64 (σ 6) fun x6 => ref03_Read.p3 K x0 x1A x1n x1c x6 w) ?_ ?_
      ·
        exact sh_sound _ _ _ _ (Eq.mp (by kernel_rfl) h)
      · intro σ w h
        obtain ⟨x0, e0, h⟩ := vI_elim h
        obtain ⟨x1A, x1n, x1c, e1, h⟩ := vS_elim h
        obtain ⟨x6, e6, h⟩ := vI_elim h
        refine J.sub ?_ ((((Sub.base _).upd e0).upd e1).upd e6)
        clear e0 e1 e6
        refine J_seq (fun σ w => vI .i64 (σ 0) fun x0 => vS (σ 1) fun x1A x1n x1c => vI .i64 (σ 6) fun x6 => ref03_Read.p4 K x0 x1A x1n x1c x6 w) ?_ ?_
        ·
          exact sh_sound _ _ _ _ (Eq.mp (by kernel_rfl) h)
        · intro σ w h
          obtain ⟨x0, e0, h⟩ := vI_elim h
          obtain ⟨x1A, x1n, x1c, e1, h⟩ := vS_elim h
          obtain ⟨x6, e6, h⟩ := vI_elim h
          refine J.sub ?_ ((((Sub.base _).upd e0).upd e1).upd e6)
          clear e0 e1 e6
          refine J_seq (fun σ w => vI .i64 (σ 0) fun x0 => vS (σ 1) fun x1A x1n x1c => ref03_Read.p5 K x0 x1A x1n x1c w) ?_ ?_
          ·
            exact sh_sound _ _ _ _ (Eq.mp (by kernel_rfl) h)
          · intro σ w h
            obtain ⟨x0, e0, h⟩ := vI_elim h
            obtain ⟨x1A, x1n, x1c, e1, h⟩ := vS_elim h
            refine J.sub ?_ (((Sub.base _).upd e0).upd e1)
            clear e0 e1
            refine J_seq (fun σ w => vI .i64 (σ 0) fun x0 => vS (σ 1) fun x1A x1n x1c => vP (σ 7) fun x7 => ref03_Read.p6 K x0 x1A x1n x1c x7 w) ?_ ?_
            ·
              exact sh_sound _ _ _ _ (Eq.mp (by kernel_rfl) h)
            · intro σ w h
              obtain ⟨x0, e0, h⟩ := vI_elim h
              obtain ⟨x1A, x1n, x1c, e1, h⟩ := vS_elim h
              obtain ⟨x7, e7, h⟩ := vP_elim h
              refine J.sub ?_ ((((Sub.base _).upd e0).upd e1).upd e7)
              clear e0 e1 e7
              refine J_seq (fun σ w => vP (σ 7) fun x7 => ref03_Read.p17 K x7 w) ?_ ?_
              ·
                refine J_seq (fun σ w => vI .i64 (σ 0) fun x0 => vS (σ 1) fun x1A x1n x1c => vP (σ 7) fun x7 => vI .i64 (σ 31) fun x31 => vI .i64 (σ 32) fun x32 => ref03_Read.p7 K x0 x1A x1n x1c x7 x31 x32 w) ?_ ?_
                ·
                  exact sh_sound _ _ _ _ (Eq.mp (by kernel_rfl) h)
                · intro σ w h
                  obtain ⟨x0, e0, h⟩ := vI_elim h
                  obtain ⟨x1A, x1n, x1c, e1, h⟩ := vS_elim h
                  obtain ⟨x7, e7, h⟩ := vP_elim h
                  obtain ⟨x31, e31, h⟩ := vI_elim h
                  obtain ⟨x32, e32, h⟩ := vI_elim h
                  refine J.sub ?_ ((((((Sub.base _).upd e0).upd e1).upd e7).upd e31).upd e32)
                  clear e0 e1 e7 e31 e32
                  refine J_block ?_
                  refine J_loop (fun k σ w => vI .i64 (σ 0) fun x0 => vS (σ 1) fun x1A x1n x1c => vP (σ 7) fun x7 => vI .i64 (σ 31) fun x31 => vI .i64 (σ 32) fun x32 => ref03_Read.l0 K k x0 x1A x1n x1c x7 x31 x32 w) (Eq.mp (by kernel_rfl) h) ?_ ?_
                  · intro σ w h
                    obtain ⟨x0, e0, h⟩ := vI_elim h
                    obtain ⟨x1A, x1n, x1c, e1, h⟩ := vS_elim h
                    obtain ⟨x7, e7, h⟩ := vP_elim h
                    obtain ⟨x31, e31, h⟩ := vI_elim h
                    obtain ⟨x32, e32, h⟩ := vI_elim h
                    exact h
                  · intro k0 σ w h
                    obtain ⟨x0, e0, h⟩ := vI_elim h
                    obtain ⟨x1A, x1n, x1c, e1, h⟩ := vS_elim h
                    obtain ⟨x7, e7, h⟩ := vP_elim h
                    obtain ⟨x31, e31, h⟩ := vI_elim h
                    obtain ⟨x32, e32, h⟩ := vI_elim h
                    refine J.sub ?_ ((((((Sub.base _).upd e0).upd e1).upd e7).upd e31).upd e32)
                    clear e0 e1 e7 e31 e32
                    refine J_seq (fun σ w => vI .i64 (σ 0) fun x0 => vS (σ 1) fun x1A x1n x1c => vP (σ 7) fun x7 => vI .i64 (σ 31) fun x31 => vI .i64 (σ 32) fun x32 => vB (σ 33) fun x33 => ref03_Read.p8 (ref03_Read.l0 K k0) K x0 x1A x1n x1c x7 x31 x32 x33 w) ?_ ?_
                    ·
                      exact sh_sound _ _ _ _ (Eq.mp (by kernel_rfl) h)
                    · intro σ w h
                      obtain ⟨x0, e0, h⟩ := vI_elim h
                      obtain ⟨x1A, x1n, x1c, e1, h⟩ := vS_elim h
                      obtain ⟨x7, e7, h⟩ := vP_elim h
                      obtain ⟨x31, e31, h⟩ := vI_elim h
                      obtain ⟨x32, e32, h⟩ := vI_elim h
                      obtain ⟨x33, e33, h⟩ := vB_elim h
                      refine J.sub ?_ (((((((Sub.base _).upd e0).upd e1).upd e7).upd e31).upd e32).upd e33)
                      clear e0 e1 e7 e31 e32 e33
                      refine J_seq (fun σ w => vI .i64 (σ 0) fun x0 => vS (σ 1) fun x1A x1n x1c => vP (σ 7) fun x7 => vI .i64 (σ 31) fun x31 => vI .i64 (σ 32) fun x32 => ref03_Read.p9 (ref03_Read.l0 K k0) K x0 x1A x1n x1c x7 x31 x32 w) ?_ ?_
                      ·
                        exact sh_sound _ _ _ _ (Eq.mp (by kernel_rfl) h)
                      · intro σ w h
                        obtain ⟨x0, e0, h⟩ := vI_elim h
                        obtain ⟨x1A, x1n, x1c, e1, h⟩ := vS_elim h
                        obtain ⟨x7, e7, h⟩ := vP_elim h
                        obtain ⟨x31, e31, h⟩ := vI_elim h
                        obtain ⟨x32, e32, h⟩ := vI_elim h
                        refine J.sub ?_ ((((((Sub.base _).upd e0).upd e1).upd e7).upd e31).upd e32)
                        clear e0 e1 e7 e31 e32
                        refine J_seq (fun σ w => vI .i64 (σ 0) fun x0 => vS (σ 1) fun x1A x1n x1c => vP (σ 7) fun x7 => vI .i64 (σ 31) fun x31 => vI .i64 (σ 32) fun x32 => ref03_Read.p16 (ref03_Read.l0 K k0) K x0 x1A x1n x1c x7 x31 x32 w) ?_ ?_
                        ·
                          refine J_block ?_
                          refine J_seq (fun σ w => vI .i64 (σ 0) fun x0 => vS (σ 1) fun x1A x1n x1c => vP (σ 7) fun x7 => vI .i64 (σ 8) fun x8 => vI .i64 (σ 31) fun x31 => vI .i64 (σ 32) fun x32 => ref03_Read.p10 (ref03_Read.l0 K k0) K x0 x1A x1n x1c x7 x8 x31 x32 w) ?_ ?_
                          ·
                            exact sh_sound _ _ _ _ (Eq.mp (by kernel_rfl) h)
                          · intro σ w h
                            obtain ⟨x0, e0, h⟩ := vI_elim h
                            obtain ⟨x1A, x1n, x1c, e1, h⟩ := vS_elim h
                            obtain ⟨x7, e7, h⟩ := vP_elim h
                            obtain ⟨x8, e8, h⟩ := vI_elim h
                            obtain ⟨x31, e31, h⟩ := vI_elim h
                            obtain ⟨x32, e32, h⟩ := vI_elim h
                            refine J.sub ?_ (((((((Sub.base _).upd e0).upd e1).upd e7).upd e8).upd e31).upd e32)
                            clear e0 e1 e7 e8 e31 e32
                            refine J_seq (fun σ w => vI .i64 (σ 0) fun x0 => vS (σ 1) fun x1A x1n x1c => vP (σ 7) fun x7 => vI .i64 (σ 8) fun x8 => vI .i64 (σ 9) fun x9 => vI .i64 (σ 31) fun x31 => vI .i64 (σ 32) fun x32 => ref03_Read.p11 (ref03_Read.l0 K k0) K x0 x1A x1n x1c x7 x8 x9 x31 x32 w) ?_ ?_
                            ·
                              exact sh_sound _ _ _ _ (Eq.mp (by kernel_rfl) h)
                            · intro σ w h
                              obtain ⟨x0, e0, h⟩ := vI_elim h
                              obtain ⟨x1A, x1n, x1c, e1, h⟩ := vS_elim h
                              obtain ⟨x7, e7, h⟩ := vP_elim h
                              obtain ⟨x8, e8, h⟩ := vI_elim h
                              obtain ⟨x9, e9, h⟩ := vI_elim h
                              obtain ⟨x31, e31, h⟩ := vI_elim h
                              obtain ⟨x32, e32, h⟩ := vI_elim h
                              refine J.sub ?_ ((((((((Sub.base _).upd e0).upd e1).upd e7).upd e8).upd e9).upd e31).upd e32)
                              clear e0 e1 e7 e8 e9 e31 e32
                              refine J_seq (fun σ w => vI .i64 (σ 0) fun x0 => vS (σ 1) fun x1A x1n x1c => vP (σ 7) fun x7 => vI .i64 (σ 8) fun x8 => vI .i64 (σ 9) fun x9 => vI .i64 (σ 10) fun x10 => vI .i64 (σ 31) fun x31 => vI .i64 (σ 32) fun x32 => ref03_Read.p12 (ref03_Read.l0 K k0) K x0 x1A x1n x1c x7 x8 x9 x10 x31 x32 w) ?_ ?_
                              ·
                                exact sh_sound _ _ _ _ (Eq.mp (by kernel_rfl) h)
                              · intro σ w h
                                obtain ⟨x0, e0, h⟩ := vI_elim h
                                obtain ⟨x1A, x1n, x1c, e1, h⟩ := vS_elim h
                                obtain ⟨x7, e7, h⟩ := vP_elim h
                                obtain ⟨x8, e8, h⟩ := vI_elim h
                                obtain ⟨x9, e9, h⟩ := vI_elim h
                                obtain ⟨x10, e10, h⟩ := vI_elim h
                                obtain ⟨x31, e31, h⟩ := vI_elim h
                                obtain ⟨x32, e32, h⟩ := vI_elim h
                                refine J.sub ?_ (((((((((Sub.base _).upd e0).upd e1).upd e7).upd e8).upd e9).upd e10).upd e31).upd e32)
                                clear e0 e1 e7 e8 e9 e10 e31 e32
                                refine J_block ?_
                                refine J_loop (fun k σ w => vI .i64 (σ 0) fun x0 => vS (σ 1) fun x1A x1n x1c => vP (σ 7) fun x7 => vI .i64 (σ 8) fun x8 => vI .i64 (σ 9) fun x9 => vI .i64 (σ 10) fun x10 => vI .i64 (σ 31) fun x31 => vI .i64 (σ 32) fun x32 => ref03_Read.l1 (ref03_Read.l0 K k0) K k x0 x1A x1n x1c x7 x8 x9 x10 x31 x32 w) (Eq.mp (by kernel_rfl) h) ?_ ?_
                                · intro σ w h
                                  obtain ⟨x0, e0, h⟩ := vI_elim h
                                  obtain ⟨x1A, x1n, x1c, e1, h⟩ := vS_elim h
                                  obtain ⟨x7, e7, h⟩ := vP_elim h
                                  obtain ⟨x8, e8, h⟩ := vI_elim h
                                  obtain ⟨x9, e9, h⟩ := vI_elim h
                                  obtain ⟨x10, e10, h⟩ := vI_elim h
                                  obtain ⟨x31, e31, h⟩ := vI_elim h
                                  obtain ⟨x32, e32, h⟩ := vI_elim h
                                  exact h
                                · intro k1 σ w h
                                  obtain ⟨x0, e0, h⟩ := vI_elim h
                                  obtain ⟨x1A, x1n, x1c, e1, h⟩ := vS_elim h
                                  obtain ⟨x7, e7, h⟩ := vP_elim h
                                  obtain ⟨x8, e8, h⟩ := vI_elim h
                                  obtain ⟨x9, e9, h⟩ := vI_elim h
                                  obtain ⟨x10, e10, h⟩ := vI_elim h
                                  obtain ⟨x31, e31, h⟩ := vI_elim h
                                  obtain ⟨x32, e32, h⟩ := vI_elim h
                                  refine J.sub ?_ (((((((((Sub.base _).upd e0).upd e1).upd e7).upd e8).upd e9).upd e10).upd e31).upd e32)
                                  clear e0 e1 e7 e8 e9 e10 e31 e32
                                  refine J_seq (fun σ w => vI .i64 (σ 0) fun x0 => vS (σ 1) fun x1A x1n x1c => vP (σ 7) fun x7 => vI .i64 (σ 8) fun x8 => vI .i64 (σ 9) fun x9 => vI .i64 (σ 10) fun x10 => vI .i64 (σ 31) fun x31 => vI .i64 (σ 32) fun x32 => ref03_Read.p13 (ref03_Read.l1 (ref03_Read.l0 K k0) K k1) (ref03_Read.l0 K k0) K x0 x1A x1n x1c x7 x8 x9 x10 x31 x32 w) ?_ ?_
                                  ·
                                    exact sh_sound _ _ _ _ (Eq.mp (by kernel_rfl) h)
                                  · intro σ w h
                                    obtain ⟨x0, e0, h⟩ := vI_elim h
                                    obtain ⟨x1A, x1n, x1c, e1, h⟩ := vS_elim h
                                    obtain ⟨x7, e7, h⟩ := vP_elim h
                                    obtain ⟨x8, e8, h⟩ := vI_elim h
                                    obtain ⟨x9, e9, h⟩ := vI_elim h
                                    obtain ⟨x10, e10, h⟩ := vI_elim h
                                    obtain ⟨x31, e31, h⟩ := vI_elim h
                                    obtain ⟨x32, e32, h⟩ := vI_elim h
                                    refine J.sub ?_ (((((((((Sub.base _).upd e0).upd e1).upd e7).upd e8).upd e9).upd e10).upd e31).upd e32)
                                    clear e0 e1 e7 e8 e9 e10 e31 e32
                                    refine J_seq (fun σ w => vI .i64 (σ 0) fun x0 => vS (σ 1) fun x1A x1n x1c => vP (σ 7) fun x7 => vI .i64 (σ 8) fun x8 => vI .i64 (σ 9) fun x9 => vI .i64 (σ 10) fun x10 => vI .i64 (σ 31) fun x31 => vI .i64 (σ 32) fun x32 => ref03_Read.p15 (ref03_Read.l1 (ref03_Read.l0 K k0) K k1) (ref03_Read.l0 K k0) K x0 x1A x1n x1c x7 x8 x9 x10 x31 x32 w) ?_ ?_
                                    ·
                                      refine J_block ?_
                                      refine J_seq (fun σ w => vI .i64 (σ 0) fun x0 => vS (σ 1) fun x1A x1n x1c => vP (σ 7) fun x7 => vI .i64 (σ 8) fun x8 => vI .i64 (σ 9) fun x9 => vI .i64 (σ 10) fun x10 => vI .i64 (σ 31) fun x31 => vI .i64 (σ 32) fun x32 => ref03_Read.p14 (ref03_Read.l1 (ref03_Read.l0 K k0) K k1) (ref03_Read.l0 K k0) K x0 x1A x1n x1c x7 x8 x9 x10 x31 x32 w) ?_ ?_
                                      ·
                                        exact sh_sound _ _ _ _ (Eq.mp (by kernel_rfl) h)
                                      · intro σ w h
                                        obtain ⟨x0, e0, h⟩ := vI_elim h
                                        obtain ⟨x1A, x1n, x1c, e1, h⟩ := vS_elim h
                                        obtain ⟨x7, e7, h⟩ := vP_elim h
                                        obtain ⟨x8, e8, h⟩ := vI_elim h
                                        obtain ⟨x9, e9, h⟩ := vI_elim h
                                        obtain ⟨x10, e10, h⟩ := vI_elim h
                                        obtain ⟨x31, e31, h⟩ := vI_elim h
                                        obtain ⟨x32, e32, h⟩ := vI_elim h
                                        refine J.sub ?_ (((((((((Sub.base _).upd e0).upd e1).upd e7).upd e8).upd e9).upd e10).upd e31).upd e32)
                                        clear e0 e1 e7 e8 e9 e10 e31 e32
                                        exact sh_sound _ _ _ _ (Eq.mp (by kernel_rfl) h)
                                    · intro σ w h
                                      obtain ⟨x0, e0, h⟩ := vI_elim h
                                      obtain ⟨x1A, x1n, x1c, e1, h⟩ := vS_elim h
                                      obtain ⟨x7, e7, h⟩ := vP_elim h
                                      obtain ⟨x8, e8, h⟩ := vI_elim h
                                      obtain ⟨x9, e9, h⟩ := vI_elim h
                                      obtain ⟨x10, e10, h⟩ := vI_elim h
                                      obtain ⟨x31, e31, h⟩ := vI_elim h
                                      obtain ⟨x32, e32, h⟩ := vI_elim h
                                      refine J.sub ?_ (((((((((Sub.base _).upd e0).upd e1).upd e7).upd e8).upd e9).upd e10).upd e31).upd e32)
                                      clear e0 e1 e7 e8 e9 e10 e31 e32
                                      exact sh_sound _ _ _ _ (Eq.mp (by kernel_rfl) h)
                        · intro σ w h
                          obtain ⟨x0, e0, h⟩ := vI_elim h
                          obtain ⟨x1A, x1n, x1c, e1, h⟩ := vS_elim h
                          obtain ⟨x7, e7, h⟩ := vP_elim h
                          obtain ⟨x31, e31, h⟩ := vI_elim h
                          obtain ⟨x32, e32, h⟩ := vI_elim h
                          refine J.sub ?_ ((((((Sub.base _).upd e0).upd e1).upd e7).upd e31).upd e32)
                          clear e0 e1 e7 e31 e32
                          exact sh_sound _ _ _ _ (Eq.mp (by kernel_rfl) h)
              · intro σ w h
                obtain ⟨x7, e7, h⟩ := vP_elim h
                refine J.sub ?_ ((Sub.base _).upd e7)
                clear e7
                exact sh_sound _ _ _ _ (Eq.mp (by kernel_rfl) h)

/-! ### (*hayloft/hayloftref03.Set).List: function 56 -/
abbrev ref03_Set_List.p5 (L0 : Option Addr → Option Addr → Nat → Nat → Int → Int → World → Prop) (K : Value → World → Prop) (x0 : Option Addr) (x3A : Option Addr) (x3n : Nat) (x3c : Nat) (x9 : Int) (x10 : Int) (w : World) : Prop :=
  L0 x0 x3A x3n x3c x9 (IntKind.wrap .i64 (x10 + (1 : Int))) w
abbrev ref03_Set_List.p4 (L0 : Option Addr → Option Addr → Nat → Nat → Int → Int → World → Prop) (K : Value → World → Prop) (x0 : Option Addr) (x3A : Option Addr) (x3n : Nat) (x3c : Nat) (x9 : Int) (x10 : Int) (w : World) : Prop :=
  ∃ (a5 : Addr), x0 = some a5 ∧ ∃ (A6 : Option Addr) (m7 : Nat) (c8 : Nat), w.cell? a5 = some (.slice A6 m7 c8) ∧ (0 ≤ x10 ∧ x10 < ((m7 : Nat) : Int)) ∧ ∃ (a9 : Addr), A6 = some a9 ∧ ∃ (b10 : Bool), w.cell? (a9.add x10.toNat) = some (.bool b10) ∧ condP b10 (wlet (w.alloc (.cells #[.int .i64 x10] 3)) fun w11 => SemJ Tryd.prog (Builtin.append_ #[22, 22] 22 #[.slice x3A x3n x3c, .slice (some ⟨w.heap.size, 0, none⟩) 1 1]) (fun v12 w13 => ∃ (A14 : Option Addr) (m15 : Nat) (c16 : Nat), v12 = .slice A14 m15 c16 ∧ ref03_Set_List.p5 L0 K x0 A14 m15 c16 x9 x10 w13) w11) (ref03_Set_List.p5 L0 K x0 x3A x3n x3c x9 x10 w)
abbrev ref03_Set_List.p6 (K : Value → World → Prop) (x3A : Option Addr) (x3n : Nat) (x3c : Nat) (w : World) : Prop :=
  K (.slice x3A x3n x3c) w
abbrev ref03_Set_List.p3 (L0 : Option Addr → Option Addr → Nat → Nat → Int → Int → World → Prop) (K : Value → World → Prop) (x0 : Option Addr) (x3A : Option Addr) (x3n : Nat) (x3c : Nat) (x9 : Int) (x10 : Int) (x11 : Bool) (w : World) : Prop :=
  condP x11 (ref03_Set_List.p4 L0 K x0 x3A x3n x3c x9 x10 w) (ref03_Set_List.p6 K x3A x3n x3c w)
abbrev ref03_Set_List.b0 (L0 : Option Addr → Option Addr → Nat → Nat → Int → Int → World → Prop) (K : Value → World → Prop) (x0 : Option Addr) (x3A : Option Addr) (x3n : Nat) (x3c : Nat) (x9 : Int) (x10 : Int) (w : World) : Prop :=
  ref03_Set_List.p3 L0 K x0 x3A x3n x3c x9 x10 (decide (x10 < x9)) w
def ref03_Set_List.l0 (K : Value → World → Prop) (k : Nat) : Option Addr → Option Addr → Nat → Nat → Int → Int → World → Prop :=
  Nat.rec (motive := fun _ => Option Addr → Option Addr → Nat → Nat → Int → Int → World → Prop) (fun _ _ _ _ _ _ _ => False) (fun _ ih => ref03_Set_List.b0 ih K) k
theorem ref03_Set_List.l0_succ (K : Value → World → Prop) (k : Nat) (x0 : Option Addr) (x3A : Option Addr) (x3n : Nat) (x3c : Nat) (x9 : Int) (x10 : Int) (w : World) : ref03_Set_List.l0 K (k + 1) x0 x3A x3n x3c x9 x10 w = ref03_Set_List.b0 (ref03_Set_List.l0 K k) K x0 x3A x3n x3c x9 x10 w := rfl
abbrev ref03_Set_List.p2 (K : Value → World → Prop) (x0 : Option Addr) (x3A : Option Addr) (x3n : Nat) (x3c : Nat) (x9 : Int) (x10 : Int) (w : World) : Prop :=
  ∃ k, ref03_Set_List.l0 K k x0 x3A x3n x3c x9 x10 w
abbrev ref03_Set_List.p1 (K : Value → World → Prop) (x0 : Option Addr) (x3A : Option Addr) (x3n : Nat) (x3c : Nat) (w : World) : Prop :=
  ∃ (a1 : Addr), x0 = some a1 ∧ ∃ (A2 : Option Addr) (m3 : Nat) (c4 : Nat), w.cell? a1 = some (.slice A2 m3 c4) ∧ ref03_Set_List.p2 K x0 x3A x3n x3c ((m3 : Nat) : Int) 0 w
abbrev ref03_Set_List.p0 (K : Value → World → Prop) (x0 : Option Addr) (w : World) : Prop :=
  ref03_Set_List.p1 K x0 none 0 0 w
abbrev ref03_Set_List.F (q0 : Option Addr) (K : Value → World → Prop) (w : World) : Prop :=
  ref03_Set_List.p0 K q0 w
theorem ref03_Set_List.ok {q0 : Option Addr} {K : Value → World → Prop} {w : World} (h : ref03_Set_List.F q0 K w) :
    CallsE Tryd.prog 56 #[.pointer q0] w K := by
  refine calls_of_J (n := 26) (rs := [.tmp 2]) Tryd.func56 rfl rfl rfl rfl ?_
  refine J_seq (fun σ w => vP (σ 0) fun x0 => ref03_Set_List.p0 K x0 w) ?_ ?_
  ·
    exact sh_sound _ _ _ _ (Eq.mp (by kernel_rfl) h)
  · intro σ w h
    obtain ⟨x0, e0, h⟩ := vP_elim h
    refine J.sub ?_ ((Sub.base _).upd e0)
    clear e0
    refine J_seq (fun σ w => vP (σ 0) fun x0 => vS (σ 3) fun x3A x3n x3c => ref03_Set_List.p1 K x0 x3A x3n x3c w) ?_ ?_
    ·
      exact sh_sound _ _ _ _ (Eq.mp (by kernel_rfl) h)
    · intro σ w h
      obtain ⟨x0, e0, h⟩ := vP_elim h
      obtain ⟨x3A, x3n, x3c, e3, h⟩ := vS_elim h
      refine J.sub ?_ (((Sub.base _).upd e0).upd e3)
      clear e0 e3
      refine J_seq (fun σ w => vS (σ 3) fun x3A x3n x3c => ref03_Set_List.p6 K x3A x3n x3c w) ?_ ?_
      ·
        refine J_seq (fun σ w => vP (σ 0) fun x0 => vS (σ 3) fun x3A x3n x3c => vI .i64 (σ 9) fun x9 => vI .i64 (σ 10) fun x10 => ref03_Set_List.p2 K x0 x3A x3n x3c x9 x10 w) ?_ ?_
        ·
          exact sh_sound _ _ _ _ (Eq.mp (by kernel_rfl) h)
        · intro σ w h
          obtain ⟨x0, e0, h⟩ := vP_elim h
          obtain ⟨x3A, x3n, x3c, e3, h⟩ := vS_elim h
          obtain ⟨x9, e9, h⟩ := vI_elim h
          obtain ⟨x10, e10, h⟩ := vI_elim h
          refine J.sub ?_ (((((Sub.base _).upd e0).upd e3).upd e9).upd e10)
          clear e0 e3 e9 e10
          refine J_block ?_
          refine J_loop (fun k σ w => vP (σ 0) fun x0 => vS (σ 3) fun x3A x3n x3c => vI .i64 (σ 9) fun x9 => vI .i64 (σ 10) fun x10 => ref03_Set_List.l0 K k x0 x3A x3n x3c x9 x10 w) (Eq.mp (by kernel_rfl) h) ?_ ?_
          · intro σ w h
            obtain ⟨x0, e0, h⟩ := vP_elim h
            obtain ⟨x3A, x3n, x3c, e3, h⟩ := vS_elim h
            obtain ⟨x9, e9, h⟩ := vI_elim h
            obtain ⟨x10, e10, h⟩ := vI_elim h
            exact h
          · intro k0 σ w h
            obtain ⟨x0, e0, h⟩ := vP_elim h
            obtain ⟨x3A, x3n, x3c, e3, h⟩ := vS_elim h
            obtain ⟨x9, e9, h⟩ := vI_elim h
            obtain ⟨x10, e10, h⟩ := vI_elim h
            refine J.sub ?_ (((((Sub.base _).upd e0).upd e3).upd e9).upd e10)
            clear e0 e3 e9 e10
            refine J_seq (fun σ w => vP (σ 0) fun x0 => vS (σ 3) fun x3A x3n x3c => vI .i64 (σ 9) fun x9 => vI .i64 (σ 10) fun x10 => vB (σ 11) fun x11 => ref03_Set_List.p3 (ref03_Set_List.l0 K k0) K x0 x3A x3n x3c x9 x10 x11 w) ?_ ?_
            ·
              exact sh_sound _ _ _ _ (Eq.mp (by kernel_rfl) h)
            · intro σ w h
              obtain ⟨x0, e0, h⟩ := vP_elim h
              obtain ⟨x3A, x3n, x3c, e3, h⟩ := vS_elim h
              obtain ⟨x9, e9, h⟩ := vI_elim h
              obtain ⟨x10, e10, h⟩ := vI_elim h
              obtain ⟨x11, e11, h⟩ := vB_elim h
              refine J.sub ?_ ((((((Sub.base _).upd e0).upd e3).upd e9).upd e10).upd e11)
              clear e0 e3 e9 e10 e11
              refine J_seq (fun σ w => vP (σ 0) fun x0 => vS (σ 3) fun x3A x3n x3c => vI .i64 (σ 9) fun x9 => vI .i64 (σ 10) fun x10 => ref03_Set_List.p4 (ref03_Set_List.l0 K k0) K x0 x3A x3n x3c x9 x10 w) ?_ ?_
              ·
                exact sh_sound _ _ _ _ (Eq.mp (by kernel_rfl) h)
              · intro σ w h
                obtain ⟨x0, e0, h⟩ := vP_elim h
                obtain ⟨x3A, x3n, x3c, e3, h⟩ := vS_elim h
                obtain ⟨x9, e9, h⟩ := vI_elim h
                obtain ⟨x10, e10, h⟩ := vI_elim h
                refine J.sub ?_ (((((Sub.base _).upd e0).upd e3).upd e9).upd e10)
                clear e0 e3 e9 e10
                refine J_seq (fun σ w => vP (σ 0) fun x0 => vS (σ 3) fun x3A x3n x3c => vI .i64 (σ 9) fun x9 => vI .i64 (σ 10) fun x10 => ref03_Set_List.p5 (ref03_Set_List.l0 K k0) K x0 x3A x3n x3c x9 x10 w) ?_ ?_
                ·
                  exact sh_sound _ _ _ _ (Eq.mp (by kernel_rfl) h)
                · intro σ w h
                  obtain ⟨x0, e0, h⟩ := vP_elim h
                  obtain ⟨x3A, x3n, x3c, e3, h⟩ := vS_elim h
                  obtain ⟨x9, e9, h⟩ := vI_elim h
                  obtain ⟨x10, e10, h⟩ := vI_elim h
                  refine J.sub ?_ (((((Sub.base _).upd e0).upd e3).upd e9).upd e10)
                  clear e0 e3 e9 e10
                  exact sh_sound _ _ _ _ (Eq.mp (by kernel_rfl) h)
      · intro σ w h
        obtain ⟨x3A, x3n, x3c, e3, h⟩ := vS_elim h
        refine J.sub ?_ ((Sub.base _).upd e3)
        clear e3
        exact sh_sound _ _ _ _ (Eq.mp (by kernel_rfl) h)

/-! ### hayloft/hayloftref16.Read: function 57 -/
abbrev ref16_Read.p10 (L0 : Option Addr → Int → Int → Option Addr → Nat → Nat → Int → World → Prop) (K : Value → World → Prop) (x0 : Option Addr) (x3 : Int) (x4 : Int) (x5A : Option Addr) (x5n : Nat) (x5c : Nat) (x6 : Int) (w : World) : Prop :=
  L0 x0 x3 x4 x5A x5n x5c (IntKind.wrap .i64 (x6 + (1 : Int))) w
abbrev ref16_Read.p9 (L0 : Option Addr → Int → Int → Option Addr → Nat → Nat → Int → World → Prop) (K : Value → World → Prop) (x0 : Option Addr) (x3 : Int) (x5A : Option Addr) (x5n : Nat) (x5c : Nat) (x6 : Int) (x7 : Int) (w : World) : Prop :=
  wlet (w.alloc (.cells #[.int .i64 (IntKind.wrap .i64 ((8 : Int) * x7))] 3)) fun w13 => SemJ Tryd.prog (Builtin.append_ #[22, 22] 22 #[.slice x5A x5n x5c, .slice (some ⟨w.heap.size, 0, none⟩) 1 1]) (fun v14 w15 => ∃ (A16 : Option Addr) (m17 : Nat) (c18 : Nat), v14 = .slice A16 m17 c18 ∧ ref16_Read.p10 L0 K x0 x3 (IntKind.wrap .i64 (x7 + (1 : Int))) A16 m17 c18 x6 w15) w13
abbrev ref16_Read.p8 (L0 : Option Addr → Int → Int → Option Addr → Nat → Nat → Int → World → Prop) (K : Value → World → Prop) (x0 : Option Addr) (x3 : Int) (x5A : Option Addr) (x5n : Nat) (x5c : Nat) (x6 : Int) (x7 : Int) (x37 : Bool) (w : World) : Prop :=
  condP x37 (CallsE Tryd.prog 73 #[.pointer x0, .int .i64 4] w (fun v11 w12 => v11 = .tuple #[] ∧ ref16_Read.p9 L0 K x0 x3 x5A x5n x5c x6 x7 w12)) (ref16_Read.p9 L0 K x0 x3 x5A x5n x5c x6 x7 w)
abbrev ref16_Read.p7 (L0 : Option Addr → Int → Int → Option Addr → Nat → Nat → Int → World → Prop) (K : Value → World → Prop) (x0 : Option Addr) (x3 : Int) (x5A : Option Addr) (x5n : Nat) (x5c : Nat) (x6 : Int) (x7 : Int) (w : World) : Prop :=
  ∃ (a9 : Addr), x0 = some a9 ∧ ∃ (n10 : Int), w.cell? (a9.add 1) = some (.int .i64 n10) ∧ condP (n10 == (0 : Int)) (ref16_Read.p8 L0 K x0 x3 x5A x5n x5c x6 x7 (decide ((65527 : Int) < (IntKind.wrap .i64 ((8 : Int) * x7)))) w) (ref16_Read.p8 L0 K x0 x3 x5A x5n x5c x6 x7 false w)
abbrev ref16_Read.p6 (L0 : Option Addr → Int → Int → Option Addr → Nat → Nat → Int → World → Prop) (K : Value → World → Prop) (x0 : Option Addr) (x3 : Int) (x4 : Int) (x5A : Option Addr) (x5n : Nat) (x5c : Nat) (x6 : Int) (w : World) : Prop :=
  CallsE Tryd.prog 52 #[.pointer x0, .int .u64 8192] w (fun v6 w7 => ∃ (n8 : Int), v6 = .int .u64 n8 ∧ ref16_Read.p7 L0 K x0 x3 x5A x5n x5c x6 (IntKind.wrap .i64 (x4 + (IntKind.wrap .i64 n8))) w7)
abbrev ref16_Read.p11 (K : Value → World → Prop) (x0 : Option Addr) (x5A : Option Addr) (x5n : Nat) (x5c : Nat) (w : World) : Prop :=
  ∃ (a19 : Addr), x0 = some a19 ∧ ∃ (n20 : Int), w.cell? (a19.add 1) = some (.int .i64 n20) ∧ condP (n20 != (0 : Int)) (K (.slice none 0 0) w) (K (.slice x5A x5n x5c) w)
abbrev ref16_Read.p5 (L0 : Option Addr → Int → Int → Option Addr → Nat → Nat → Int → World → Prop) (K : Value → World → Prop) (x0 : Option Addr) (x3 : Int) (x4 : Int) (x5A : Option Addr) (x5n : Nat) (x5c : Nat) (x6 : Int) (x20 : Bool) (w : World) : Prop :=
  condP x20 (ref16_Read.p6 L0 K x0 x3 x4 x5A x5n x5c x6 w) (ref16_Read.p11 K x0 x5A x5n x5c w)
abbrev ref16_Read.b0 (L0 : Option Addr → Int → Int → Option Addr → Nat → Nat → Int → World → Prop) (K : Value → World → Prop) (x0 : Option Addr) (x3 : Int) (x4 : Int) (x5A : Option Addr) (x5n : Nat) (x5c : Nat) (x6 : Int) (w : World) : Prop :=
  condP (decide (x6 < x3)) (∃ (a4 : Addr), x0 = some a4 ∧ ∃ (n5 : Int), w.cell? (a4.add 1) = some (.int .i64 n5) ∧ ref16_Read.p5 L0 K x0 x3 x4 x5A x5n x5c x6 (n5 == (0 : Int)) w) (ref16_Read.p5 L0 K x0 x3 x4 x5A x5n x5c x6 false w)
def ref16_Read.l0 (K : Value → World → Prop) (k : Nat) : Option Addr → Int → Int → Option Addr → Nat → Nat → Int → World → Prop :=
  Nat.rec (motive := fun _ => Option Addr → Int → Int → Option Addr → Nat → Nat → Int → World → Prop) (fun _ _ _ _ _ _ _ _ => False) (fun _ ih => ref16_Read.b0 ih K) k
theorem ref16_Read.l0_succ (K : Value → World → Prop) (k : Nat) (x0 : Option Addr) (x3 : Int) (x4 : Int) (x5A : Option Addr) (x5n : Nat) (x5c : Nat) (x6 : Int) (w : World) : ref16_Read.l0 K (k + 1) x0 x3 x4 x5A x5n x5c x6 w = ref16_Read.b0 (ref16_Read.l0 K k) K x0 x3 x4 x5A x5n x5c x6 w := rfl
abbrev ref16_Read.p4 (K : Value → World → Prop) (x0 : Option Addr) (x3 : Int) (x4 : Int) (x5A : Option Addr) (x5n : Nat) (x5c : Nat) (x6 : Int) (w : World) : Prop :=
  ∃ k, ref16_Read.l0 K k x0 x3 x4 x5A x5n x5c x6 w
abbrev ref16_Read.p3 (K : Value → World → Prop) (x0 : Option Addr) (x3 : Int) (x4 : Int) (x5A : Option Addr) (x5n : Nat) (x5c : Nat) (w : World) : Prop :=
  ref16_Read.p4 K x0 x3 x4 x5A x5n x5c 0 w
abbrev ref16_Read.p2 (K : Value → World → Prop) (x0 : Option Addr) (x3 : Int) (x4 : Int) (w : World) : Prop :=
  ref16_Read.p3 K x0 x3 x4 none 0 0 w
abbrev ref16_Read.p1 (K : Value → World → Prop) (x0 : Option Addr) (x3 : Int) (w : World) : Prop :=
  ref16_Read.p2 K x0 x3 0 w
abbrev ref16_Read.p0 (K : Value → World → Prop) (x0 : Option Addr) (w : World) : Prop :=
  CallsE Tryd.prog 52 #[.pointer x0, .int .u64 8192] w (fun v1 w2 => ∃ (n3 : Int), v1 = .int .u64 n3 ∧ ref16_Read.p1 K x0 (IntKind.wrap .i64 n3) w2)
abbrev ref16_Read.F (q0 : Option Addr) (K : Value → World → Prop) (w : World) : Prop :=
  ref16_Read.p0 K q0 w
theorem ref16_Read.ok {q0 : Option Addr} {K : Value → World → Prop} {w : World} (h : ref16_Read.F q0 K w) :
    CallsE Tryd.prog 57 #[.pointer q0] w K := by
  refine calls_of_J (n := 53) (rs := [.tmp 2]) Tryd.func57 rfl rfl rfl rfl ?_
  refine J_seq (fun σ w => vP (σ 0) fun x0 => ref16_Read.p0 K x0 w) ?_ ?_
  ·
    exact sh_sound _ _ _ _ (Eq.mp (by kernel_rfl) h)
  · intro σ w h
    obtain ⟨x0, e0, h⟩ := vP_elim h
    refine J.sub ?_ ((Sub.base _).upd e0)
    clear e0
    refine J_seq (fun σ w => vP (σ 0) fun x0 => vI .i64 (σ 3) fun x3 => ref16_Read.p1 K x0 x3 w) ?_ ?_
    ·
      exact sh_sound _ _ _ _ (Eq.mp (by kernel_rfl) h)
    · intro σ w h
      obtain ⟨x0, e0, h⟩ := vP_elim h
      obtain ⟨x3, e3, h⟩ := vI_elim h
      refine J.sub ?_ (((Sub.base _).upd e0).upd e3)
      clear e0 e3
      refine J_seq (fun σ w => vP (σ 0) fun x0 => vI .i64 (σ 3) fun x3 => vI .i64 (σ 4) fun x4 => ref16_Read.p2 K x0 x3 x4 w) ?_ ?_
      ·
        exact sh_sound _ _ _ _ (Eq.mp (by kernel_rfl) h)
      · intro σ w h
        obtain ⟨x0, e0, h⟩ := vP_elim h
        obtain ⟨x3, e3, h⟩ := vI_elim h
        obtain ⟨x4, e4, h⟩ := vI_elim h
        refine J.sub ?_ ((((Sub.base _).upd e0).upd e3).upd e4)
        clear e0 e3 e4
        refine J_seq (fun σ w => vP (σ 0) fun x0 => vI .i64 (σ 3) fun x3 => vI .i64 (σ 4) fun x4 => vS (σ 5) fun x5A x5n x5c => ref16_Read.p3 K x0 x3 x4 x5A x5n x5c w) ?_ ?_
        ·
          exact sh_sound _ _ _ _ (Eq.mp (by kernel_rfl) h)
        · intro σ w h
          obtain ⟨x0, e0, h⟩ := vP_elim h
          obtain ⟨x3, e3, h⟩ := vI_elim h
          obtain ⟨x4, e4, h⟩ := vI_elim h
          obtain ⟨x5A, x5n, x5c, e5, h⟩ := vS_elim h
          refine J.sub ?_ (((((Sub.base _).upd e0).upd e3).upd e4).upd e5)
          clear e0 e3 e4 e5
          refine J_seq (fun σ w => vP (σ 0) fun x0 => vS (σ 5) fun x5A x5n x5c => ref16_Read.p11 K x0 x5A x5n x5c w) ?_ ?_
          ·
            refine J_seq (fun σ w => vP (σ 0) fun x0 => vI .i64 (σ 3) fun x3 => vI .i64 (σ 4) fun x4 => vS (σ 5) fun x5A x5n x5c => vI .i64 (σ 6) fun x6 => ref16_Read.p4 K x0 x3 x4 x5A x5n x5c x6 w) ?_ ?_
            ·
              exact sh_sound _ _ _ _ (Eq.mp (by kernel_rfl) h)
            · intro σ w h
              obtain ⟨x0, e0, h⟩ := vP_elim h
              obtain ⟨x3, e3, h⟩ := vI_elim h
              obtain ⟨x4, e4, h⟩ := vI_elim h
              obtain ⟨x5A, x5n, x5c, e5, h⟩ := vS_elim h
              obtain ⟨x6, e6, h⟩ := vI_elim h
              refine J.sub ?_ ((((((Sub.base _).upd e0).upd e3).upd e4).upd e5).upd e6)
              clear e0 e3 e4 e5 e6
              refine J_block ?_
              refine J_loop (fun k σ w => vP (σ 0) fun x0 => vI .i64 (σ 3) fun x3 => vI .i64 (σ 4) fun x4 => vS (σ 5) fun x5A x5n x5c => vI .i64 (σ 6) fun x6 => ref16_Read.l0 K k x0 x3 x4 x5A x5n x5c x6 w) (Eq.mp (by kernel_rfl) h) ?_ ?_
              · intro σ w h
                obtain ⟨x0, e0, h⟩ := vP_elim h
                obtain ⟨x3, e3, h⟩ := vI_elim h
                obtain ⟨x4, e4, h⟩ := vI_elim h
                obtain ⟨x5A, x5n, x5c, e5, h⟩ := vS_elim h
                obtain ⟨x6, e6, h⟩ := vI_elim h
                exact h
              · intro k0 σ w h
                obtain ⟨x0, e0, h⟩ := vP_elim h
                obtain ⟨x3, e3, h⟩ := vI_elim h
                obtain ⟨x4, e4, h⟩ := vI_elim h
                obtain ⟨x5A, x5n, x5c, e5, h⟩ := vS_elim h
                obtain ⟨x6, e6, h⟩ := vI_elim h
                refine J.sub ?_ ((((((Sub.base _).upd e0).upd e3).upd e4).upd e5).upd e6)
                clear e0 e3 e4 e5 e6
                refine J_seq (fun σ w => vP (σ 0) fun x0 => vI .i64 (σ 3) fun x3 => vI .i64 (σ 4) fun x4 => vS (σ 5) fun x5A x5n x5c => vI .i64 (σ 6) fun x6 => ref16_Read.p6 (ref16_Read.l0 K k0) K x0 x3 x4 x5A x5n x5c x6 w) ?_ ?_
                ·
                  refine J_seq (fun σ w => vP (σ 0) fun x0 => vI .i64 (σ 3) fun x3 => vI .i64 (σ 4) fun x4 => vS (σ 5) fun x5A x5n x5c => vI .i64 (σ 6) fun x6 => vB (σ 20) fun x20 => ref16_Read.p5 (ref16_Read.l0 K k0) K x0 x3 x4 x5A x5n x5c x6 x20 w) ?_ ?_
                  ·
                    exact sh_sound _ _ _ _ (Eq.mp (by kernel_rfl) h)
                  · intro σ w h
                    obtain ⟨x0, e0, h⟩ := vP_elim h
                    obtain ⟨x3, e3, h⟩ := vI_elim h
                    obtain ⟨x4, e4, h⟩ := vI_elim h
                    obtain ⟨x5A, x5n, x5c, e5, h⟩ := vS_elim h
                    obtain ⟨x6, e6, h⟩ := vI_elim h
                    obtain ⟨x20, e20, h⟩ := vB_elim h
                    refine J.sub ?_ (((((((Sub.base _).upd e0).upd e3).upd e4).upd e5).upd e6).upd e20)
                    clear e0 e3 e4 e5 e6 e20
                    exact sh_sound _ _ _ _ (Eq.mp (by kernel_rfl) h)
                · intro σ w h
                  obtain ⟨x0, e0, h⟩ := vP_elim h
                  obtain ⟨x3, e3, h⟩ := vI_elim h
                  obtain ⟨x4, e4, h⟩ := vI_elim h
                  obtain ⟨x5A, x5n, x5c, e5, h⟩ := vS_elim h
                  obtain ⟨x6, e6, h⟩ := vI_elim h
                  refine J.sub ?_ ((((((Sub.base _).upd e0).upd e3).upd e4).upd e5).upd e6)
                  clear e0 e3 e4 e5 e6
                  refine J_seq (fun σ w => vP (σ 0) fun x0 => vI .i64 (σ 3) fun x3 => vI .i64 (σ 4) fun x4 => vS (σ 5) fun x5A x5n x5c => vI .i64 (σ 6) fun x6 => ref16_Read.p10 (ref16_Read.l0 K k0) K x0 x3 x4 x5A x5n x5c x6 w) ?_ ?_
                  ·
                    refine J_block ?_
                    refine J_seq (fun σ w => vP (σ 0) fun x0 => vI .i64 (σ 3) fun x3 => vS (σ 5) fun x5A x5n x5c => vI .i64 (σ 6) fun x6 => vI .i64 (σ 7) fun x7 => ref16_Read.p7 (ref16_Read.l0 K k0) K x0 x3 x5A x5n x5c x6 x7 w) ?_ ?_
                    ·
                      exact sh_sound _ _ _ _ (Eq.mp (by kernel_rfl) h)
                    · intro σ w h
                      obtain ⟨x0, e0, h⟩ := vP_elim h
                      obtain ⟨x3, e3, h⟩ := vI_elim h
                      obtain ⟨x5A, x5n, x5c, e5, h⟩ := vS_elim h
                      obtain ⟨x6, e6, h⟩ := vI_elim h
                      obtain ⟨x7, e7, h⟩ := vI_elim h
                      refine J.sub ?_ ((((((Sub.base _).upd e0).upd e3).upd e5).upd e6).upd e7)
                      clear e0 e3 e5 e6 e7
                      refine J_seq (fun σ w => vP (σ 0) fun x0 => vI .i64 (σ 3) fun x3 => vS (σ 5) fun x5A x5n x5c => vI .i64 (σ 6) fun x6 => vI .i64 (σ 7) fun x7 => ref16_Read.p9 (ref16_Read.l0 K k0) K x0 x3 x5A x5n x5c x6 x7 w) ?_ ?_
                      ·
                        refine J_seq (fun σ w => vP (σ 0) fun x0 => vI .i64 (σ 3) fun x3 => vS (σ 5) fun x5A x5n x5c => vI .i64 (σ 6) fun x6 => vI .i64 (σ 7) fun x7 => vB (σ 37) fun x37 => ref16_Read.p8 (ref16_Read.l0 K k0) K x0 x3 x5A x5n x5c x6 x7 x37 w) ?_ ?_
                        ·
                          exact sh_sound _ _ _ _ (Eq.mp (by kernel_rfl) h)
                        · intro σ w h
                          obtain ⟨x0, e0, h⟩ := vP_elim h
                          obtain ⟨x3, e3, h⟩ := vI_elim h
                          obtain ⟨x5A, x5n, x5c, e5, h⟩ := vS_elim h
                          obtain ⟨x6, e6, h⟩ := vI_elim h
                          obtain ⟨x7, e7, h⟩ := vI_elim h
                          obtain ⟨x37, e37, h⟩ := vB_elim h
                          refine J.sub ?_ (((((((Sub.base _).upd e0).upd e3).upd e5).upd e6).upd e7).upd e37)
                          clear e0 e3 e5 e6 e7 e37
                          exact sh_sound _ _ _ _ (Eq.mp (by kernel_rfl) h)
                      · intro σ w h
                        obtain ⟨x0, e0, h⟩ := vP_elim h
                        obtain ⟨x3, e3, h⟩ := vI_elim h
                        obtain ⟨x5A, x5n, x5c, e5, h⟩ := vS_elim h
                        obtain ⟨x6, e6, h⟩ := vI_elim h
                        obtain ⟨x7, e7, h⟩ := vI_elim h
                        refine J.sub ?_ ((((((Sub.base _).upd e0).upd e3).upd e5).upd e6).upd e7)
                        clear e0 e3 e5 e6 e7
                        exact sh_sound _ _ _ _ (Eq.mp (by kernel_rfl) h)
                  · intro σ w h
                    obtain ⟨x0, e0, h⟩ := vP_elim h
                    obtain ⟨x3, e3, h⟩ := vI_elim h
                    obtain ⟨x4, e4, h⟩ := vI_elim h
                    obtain ⟨x5A, x5n, x5c, e5, h⟩ := vS_elim h
                    obtain ⟨x6, e6, h⟩ := vI_elim h
                    refine J.sub ?_ ((((((Sub.base _).upd e0).upd e3).upd e4).upd e5).upd e6)
                    clear e0 e3 e4 e5 e6
                    exact sh_sound _ _ _ _ (Eq.mp (by kernel_rfl) h)
          · intro σ w h
            obtain ⟨x0, e0, h⟩ := vP_elim h
            obtain ⟨x5A, x5n, x5c, e5, h⟩ := vS_elim h
            refine J.sub ?_ (((Sub.base _).upd e0).upd e5)
            clear e0 e5
            exact sh_sound _ _ _ _ (Eq.mp (by kernel_rfl) h)

/-! ### (*hayloft/hayloftref01.Reader).End: function 58 -/
abbrev ref01_Reader_End.p2 (K : Value → World → Prop) (x0 : Option Addr) (w : World) : Prop :=
  ∃ (a7 : Addr), x0 = some a7 ∧ ∃ (n8 : Int), w.cell? (a7.add 1) = some (.int .i64 n8) ∧ K (.int .i64 n8) w
abbrev ref01_Reader_End.p1 (K : Value → World → Prop) (x0 : Option Addr) (x15 : Bool) (w : World) : Prop :=
  condP x15 (K (.int .i64 6) w) (ref01_Reader_End.p2 K x0 w)
abbrev ref01_Reader_End.p0 (K : Value → World → Prop) (x0 : Option Addr) (w : World) : Prop :=
  ∃ (a1 : Addr), x0 = some a1 ∧ ∃ (n2 : Int), w.cell? (a1.add 1) = some (.int .i64 n2) ∧ condP (n2 == (0 : Int)) (∃ (a3 : Addr), x0 = some a3 ∧ ∃ (A4 : Option Addr) (m5 : Nat) (c6 : Nat), w.cell? a3 = some (.slice A4 m5 c6) ∧ ref01_Reader_End.p1 K x0 (decide ((0 : Int) < ((m5 : Nat) : Int))) w) (ref01_Reader_End.p1 K x0 false w)
abbrev ref01_Reader_End.F (q0 : Option Addr) (K : Value → World → Prop) (w : World) : Prop :=
  ref01_Reader_End.p0 K q0 w
theorem ref01_Reader_End.ok {q0 : Option Addr} {K : Value → World → Prop} {w : World} (h : ref01_Reader_End.F q0 K w) :
    CallsE Tryd.prog 58 #[.pointer q0] w K := by
  refine calls_of_J (n := 20) (rs := [.tmp 2]) Tryd.func58 rfl rfl rfl rfl ?_
  refine J_seq (fun σ w => vP (σ 0) fun x0 => ref01_Reader_End.p0 K x0 w) ?_ ?_
  ·
    exact sh_sound _ _ _ _ (Eq.mp (by kernel_rfl) h)
  · intro σ w h
    obtain ⟨x0, e0, h⟩ := vP_elim h
    refine J.sub ?_ ((Sub.base _).upd e0)
    clear e0
    refine J_seq (fun σ w => vP (σ 0) fun x0 => ref01_Reader_End.p2 K x0 w) ?_ ?_
    ·
      refine J_seq (fun σ w => vP (σ 0) fun x0 => vB (σ 15) fun x15 => ref01_Reader_End.p1 K x0 x15 w) ?_ ?_
      ·
        exact sh_sound _ _ _ _ (Eq.mp (by kernel_rfl) h)
      · intro σ w h
        obtain ⟨x0, e0, h⟩ := vP_elim h
        obtain ⟨x15, e15, h⟩ := vB_elim h
        refine J.sub ?_ (((Sub.base _).upd e0).upd e15)
        clear e0 e15
        exact sh_sound _ _ _ _ (Eq.mp (by kernel_rfl) h)
    · intro σ w h
      obtain ⟨x0, e0, h⟩ := vP_elim h
      refine J.sub ?_ ((Sub.base _).upd e0)
      clear e0
      exact sh_sound _ _ _ _ (Eq.mp (by kernel_rfl) h)

/-! ### hayloft/class.Size: function 59 -/
abbrev class_Size.p4 (K : Value → World → Prop) (x3 : Int) (w : World) : Prop :=
  K (.int .i64 x3) w
abbrev class_Size.p3 (K : Value → World → Prop) (x0 : Int) (x3 : Int) (w : World) : Prop :=
  (2 : Int) ≠ 0 ∧ condP ((Int.tmod x0 2) == (1 : Int)) ((2 : Int) ≠ 0 ∧ class_Size.p4 K (IntKind.wrap .i64 (x3 + (IntKind.wrap .i64 (Int.tdiv x3 2)))) w) (class_Size.p4 K x3 w)
abbrev class_Size.p2 (K : Value → World → Prop) (x0 : Int) (w : World) : Prop :=
  (2 : Int) ≠ 0 ∧ 0 ≤ (IntKind.wrap .i64 (Int.tdiv x0 2)) ∧ class_Size.p3 K x0 (ishl .i64 16 (IntKind.wrap .i64 (Int.tdiv x0 2))) w
abbrev class_Size.p1 (K : Value → World → Prop) (x0 : Int) (x9 : Bool) (w : World) : Prop :=
  condP x9 (K (.int .i64 0) w) (class_Size.p2 K x0 w)
abbrev class_Size.p0 (K : Value → World → Prop) (x0 : Int) (w : World) : Prop :=
  condP (decide (x0 < (0 : Int))) (class_Size.p1 K x0 true w) (class_Size.p1 K x0 (decide ((7 : Int) ≤ x0)) w)
abbrev class_Size.F (q0 : Int) (K : Value → World → Prop) (w : World) : Prop :=
  class_Size.p0 K q0 w
theorem class_Size.ok {q0 : Int} {K : Value → World → Prop} {w : World} (h : class_Size.F q0 K w) :
    CallsE Tryd.prog 59 #[.int .i64 q0] w K := by
  refine calls_of_J (n := 21) (rs := [.tmp 2]) Tryd.func59 rfl rfl rfl rfl ?_
  refine J_seq (fun σ w => vI .i64 (σ 0) fun x0 => class_Size.p0 K x0 w) ?_ ?_
  ·
    exact sh_sound _ _ _ _ (Eq.mp (by kernel_rfl) h)
  · intro σ w h
    obtain ⟨x0, e0, h⟩ := vI_elim h
    refine J.sub ?_ ((Sub.base _).upd e0)
    clear e0
    refine J_seq (fun σ w => vI .i64 (σ 0) fun x0 => class_Size.p2 K x0 w) ?_ ?_
    ·
      refine J_seq (fun σ w => vI .i64 (σ 0) fun x0 => vB (σ 9) fun x9 => class_Size.p1 K x0 x9 w) ?_ ?_
      ·
        exact sh_sound _ _ _ _ (Eq.mp (by kernel_rfl) h)
      · intro σ w h
        obtain ⟨x0, e0, h⟩ := vI_elim h
        obtain ⟨x9, e9, h⟩ := vB_elim h
        refine J.sub ?_ (((Sub.base _).upd e0).upd e9)
        clear e0 e9
        exact sh_sound _ _ _ _ (Eq.mp (by kernel_rfl) h)
    · intro σ w h
      obtain ⟨x0, e0, h⟩ := vI_elim h
      refine J.sub ?_ ((Sub.base _).upd e0)
      clear e0
      refine J_seq (fun σ w => vI .i64 (σ 0) fun x0 => vI .i64 (σ 3) fun x3 => class_Size.p3 K x0 x3 w) ?_ ?_
      ·
        exact sh_sound _ _ _ _ (Eq.mp (by kernel_rfl) h)
      · intro σ w h
        obtain ⟨x0, e0, h⟩ := vI_elim h
        obtain ⟨x3, e3, h⟩ := vI_elim h
        refine J.sub ?_ (((Sub.base _).upd e0).upd e3)
        clear e0 e3
        refine J_seq (fun σ w => vI .i64 (σ 3) fun x3 => class_Size.p4 K x3 w) ?_ ?_
        ·
          exact sh_sound _ _ _ _ (Eq.mp (by kernel_rfl) h)
        · intro σ w h
          obtain ⟨x3, e3, h⟩ := vI_elim h
          refine J.sub ?_ ((Sub.base _).upd e3)
          clear e3
          exact sh_sound _ _ _ _ (Eq.mp (by kernel_rfl) h)

/-! ### (*hayloft/set.Set).Len: function 60 -/
abbrev set_Set_Len.F (q0 : Option Addr) (K : Value → World → Prop) (w : World) : Prop :=
  condP q0.isNone (K (.int .i64 0) w) (∃ (a1 : Addr), q0 = some a1 ∧ ∃ (n2 : Int), w.cell? a1 = some (.int .i64 n2) ∧ K (.int .i64 n2) w)
theorem set_Set_Len.ok {q0 : Option Addr} {K : Value → World → Prop} {w : World} (h : set_Set_Len.F q0 K w) :
    CallsE Tryd.prog 60 #[.pointer q0] w K := by
  refine calls_of_J (n := 9) (rs := [.tmp 2]) Tryd.func60 rfl rfl rfl rfl ?_
  exact sh_sound _ _ _ _ (Eq.mp (by kernel_rfl) h)

/-! ### (*hayloft/set.Set).Has: function 61 -/
abbrev set_Set_Has.p1 (K : Value → World → Prop) (x4 : Bool) (w : World) : Prop :=
  K (.bool x4) w
abbrev set_Set_Has.p0 (K : Value → World → Prop) (x0 : Option Addr) (x1 : Int) (w : World) : Prop :=
  condP (decide ((0 : Int) ≤ x1)) (CallsE Tryd.prog 60 #[.pointer x0] w (fun v1 w2 => ∃ (n3 : Int), v1 = .int .i64 n3 ∧ condP (decide (x1 < n3)) (∃ (a4 : Addr), x0 = some a4 ∧ ∃ (A5 : Option Addr) (m6 : Nat) (c7 : Nat), w2.cell? (a4.add 1) = some (.slice A5 m6 c7) ∧ (64 : Int) ≠ 0 ∧ (0 ≤ (IntKind.wrap .i64 (Int.tdiv x1 64)) ∧ (IntKind.wrap .i64 (Int.tdiv x1 64)) < ((m6 : Nat) : Int)) ∧ ∃ (a8 : Addr), A5 = some a8 ∧ ∃ (n9 : Int), w2.cell? (a8.add ((IntKind.wrap .i64 (Int.tdiv x1 64)).toNat)) = some (.int .u64 n9) ∧ (64 : Int) ≠ 0 ∧ 0 ≤ (Int.tmod x1 64) ∧ set_Set_Has.p1 K ((ibits .and .u64 (ishr .u64 n9 (Int.tmod x1 64)) 1) == (1 : Int)) w2) (set_Set_Has.p1 K false w2))) (set_Set_Has.p1 K false w)
abbrev set_Set_Has.F (q0 : Option Addr) (q1 : Int) (K : Value → World → Prop) (w : World) : Prop :=
  set_Set_Has.p0 K q0 q1 w
theorem set_Set_Has.ok {q0 : Option Addr} {q1 : Int} {K : Value → World → Prop} {w : World} (h : set_Set_Has.F q0 q1 K w) :
    CallsE Tryd.prog 61 #[.pointer q0, .int .i64 q1] w K := by
  refine calls_of_J (n := 28) (rs := [.tmp 4]) Tryd.func61 rfl rfl rfl rfl ?_
  refine J_seq (fun σ w => vP (σ 0) fun x0 => vI .i64 (σ 1) fun x1 => set_Set_Has.p0 K x0 x1 w) ?_ ?_
  ·
    exact sh_sound _ _ _ _ (Eq.mp (by kernel_rfl) h)
  · intro σ w h
    obtain ⟨x0, e0, h⟩ := vP_elim h
    obtain ⟨x1, e1, h⟩ := vI_elim h
    refine J.sub ?_ (((Sub.base _).upd e0).upd e1)
    clear e0 e1
    refine J_seq (fun σ w => vB (σ 4) fun x4 => set_Set_Has.p1 K x4 w) ?_ ?_
    ·
      exact sh_sound _ _ _ _ (Eq.mp (by kernel_rfl) h)
    · intro σ w h
      obtain ⟨x4, e4, h⟩ := vB_elim h
      refine J.sub ?_ ((Sub.base _).upd e4)
      clear e4
      exact sh_sound _ _ _ _ (Eq.mp (by kernel_rfl) h)

/-! ### hayloft/hayloftref06.Size: function 62 -/
abbrev ref06_Size.p2 (K : Value → World → Prop) (x0 : Int) (w : World) : Prop :=
  (0 ≤ x0 ∧ x0 < ((7 : Nat) : Int)) ∧ ∃ (n1 : Int), ([.int .i64 16, .int .i64 24, .int .i64 32, .int .i64 48, .int .i64 64, .int .i64 96, .int .i64 128] : List Value)[x0.toNat]? = some (.int .i64 n1) ∧ K (.int .i64 n1) w
abbrev ref06_Size.p1 (K : Value → World → Prop) (x0 : Int) (x8 : Bool) (w : World) : Prop :=
  condP x8 (K (.int .i64 0) w) (ref06_Size.p2 K x0 w)
abbrev ref06_Size.p0 (K : Value → World → Prop) (x0 : Int) (w : World) : Prop :=
  condP (decide (x0 < (0 : Int))) (ref06_Size.p1 K x0 true w) (ref06_Size.p1 K x0 (decide ((6 : Int) < x0)) w)
abbrev ref06_Size.F (q0 : Int) (K : Value → World → Prop) (w : World) : Prop :=
  ref06_Size.p0 K q0 w
theorem ref06_Size.ok {q0 : Int} {K : Value → World → Prop} {w : World} (h : ref06_Size.F q0 K w) :
    CallsE Tryd.prog 62 #[.int .i64 q0] w K := by
  refine calls_of_J (n := 12) (rs := [.tmp 2]) Tryd.func62 rfl rfl rfl rfl ?_
  refine J_seq (fun σ w => vI .i64 (σ 0) fun x0 => ref06_Size.p0 K x0 w) ?_ ?_
  ·
    exact sh_sound _ _ _ _ (Eq.mp (by kernel_rfl) h)
  · intro σ w h
    obtain ⟨x0, e0, h⟩ := vI_elim h
    refine J.sub ?_ ((Sub.base _).upd e0)
    clear e0
    refine J_seq (fun σ w => vI .i64 (σ 0) fun x0 => ref06_Size.p2 K x0 w) ?_ ?_
    ·
      refine J_seq (fun σ w => vI .i64 (σ 0) fun x0 => vB (σ 8) fun x8 => ref06_Size.p1 K x0 x8 w) ?_ ?_
      ·
        exact sh_sound _ _ _ _ (Eq.mp (by kernel_rfl) h)
      · intro σ w h
        obtain ⟨x0, e0, h⟩ := vI_elim h
        obtain ⟨x8, e8, h⟩ := vB_elim h
        refine J.sub ?_ (((Sub.base _).upd e0).upd e8)
        clear e0 e8
        exact sh_sound _ _ _ _ (Eq.mp (by kernel_rfl) h)
    · intro σ w h
      obtain ⟨x0, e0, h⟩ := vI_elim h
      refine J.sub ?_ ((Sub.base _).upd e0)
      clear e0
      exact sh_sound _ _ _ _ (Eq.mp (by kernel_rfl) h)

/-! ### hayloft/span.New: function 63 -/
abbrev span_New.p6 (K : Value → World → Prop) (x1 : Int) (x8 : Addr) (w : World) : Prop :=
  CallsE Tryd.prog 24 #[.int .i64 x1] w (fun v15 w16 => ∃ (n17 : Int), v15 = .int .i64 n17 ∧ CallsE Tryd.prog 23 #[.int .i64 n17] w16 (fun v18 w19 => ∃ (p20 : Option Addr), v18 = .pointer p20 ∧ ∃ (a21 : Addr), some x8 = some a21 ∧ canStore w19 a21 ∧ wlet (w19.setCell a21 (.pointer p20)) fun w22 => K (.tuple #[.pointer (some x8), .int .i64 0]) w22))
abbrev span_New.p5 (K : Value → World → Prop) (x1 : Int) (x8 : Addr) (x54 : Bool) (w : World) : Prop :=
  condP x54 (K (.tuple #[.pointer none, .int .i64 10]) w) (span_New.p6 K x1 x8 w)
abbrev span_New.p4 (K : Value → World → Prop) (x0 : Int) (x1 : Int) (x8 : Addr) (w : World) : Prop :=
  condP (decide (x0 < (0 : Int))) (span_New.p5 K x1 x8 true w) (∃ (a23 : Addr), some x8 = some a23 ∧ ∃ (n24 : Int), w.cell? (a23.add 2) = some (.int .i64 n24) ∧ span_New.p5 K x1 x8 (decide ((IntKind.wrap .i64 ((4096 : Int) - n24)) < x0)) w)
abbrev span_New.p3 (K : Value → World → Prop) (x0 : Int) (x1 : Int) (x2 : Int) (x8 : Addr) (x22 : Bool) (w : World) : Prop :=
  condP x22 (K (.tuple #[.pointer none, .int .i64 2]) w) (condP (x1 == (7 : Int)) (CallsE Tryd.prog 74 #[.int .i64 x2] w (fun v5 w6 => ∃ (n7 : Int), v5 = .int .i64 n7 ∧ condP (n7 != (7 : Int)) (K (.tuple #[.pointer none, .int .i64 2]) w6) (CallsE Tryd.prog 75 #[.int .i64 x2] w6 (fun v8 w9 => ∃ (n10 : Int), v8 = .int .i64 n10 ∧ ∃ (a11 : Addr), some x8 = some a11 ∧ canStore w9 (a11.add 2) ∧ wlet (w9.setCell (a11.add 2) (.int .i64 n10)) fun w12 => ∃ (a13 : Addr), some x8 = some a13 ∧ canStore w12 (a13.add 4) ∧ wlet (w12.setCell (a13.add 4) (.int .i64 x2)) fun w14 => span_New.p4 K x0 x1 x8 w14)))) (span_New.p4 K x0 x1 x8 w))
abbrev span_New.p2 (K : Value → World → Prop) (x0 : Int) (x1 : Int) (x2 : Int) (x8 : Addr) (x15 : Bool) (w : World) : Prop :=
  condP x15 (K (.tuple #[.pointer none, .int .i64 11]) w) (condP (decide (x1 < (7 : Int))) (span_New.p3 K x0 x1 x2 x8 (x2 != (0 : Int)) w) (span_New.p3 K x0 x1 x2 x8 false w))
abbrev span_New.p1 (K : Value → World → Prop) (x0 : Int) (x1 : Int) (x2 : Int) (x8 : Addr) (w : World) : Prop :=
  condP (decide (x1 < (0 : Int))) (span_New.p2 K x0 x1 x2 x8 true w) (span_New.p2 K x0 x1 x2 x8 (decide ((7 : Int) < x1)) w)
abbrev span_New.p0 (K : Value → World → Prop) (x0 : Int) (x1 : Int) (x2 : Int) (w : World) : Prop :=
  CallsE Tryd.prog 59 #[.int .i64 x1] w (fun v1 w2 => ∃ (n3 : Int), v1 = .int .i64 n3 ∧ wlet (w2.alloc (.cells #[.pointer none, .int .i64 x0, .int .i64 1, .int .i64 x1, .int .i64 n3] 101)) fun w4 => span_New.p1 K x0 x1 x2 (⟨w2.heap.size, 0, none⟩) w4)
abbrev span_New.F (q0 : Int) (q1 : Int) (q2 : Int) (K : Value → World → Prop) (w : World) : Prop :=
  span_New.p0 K q0 q1 q2 w
theorem span_New.ok {q0 : Int} {q1 : Int} {q2 : Int} {K : Value → World → Prop} {w : World} (h : span_New.F q0 q1 q2 K w) :
    CallsE Tryd.prog 63 #[.int .i64 q0, .int .i64 q1, .int .i64 q2] w K := by
  refine calls_of_J (n := 63) (rs := [.tmp 6, .tmp 7]) Tryd.func63 rfl rfl rfl rfl ?_
  refine J_seq (fun σ w => vI .i64 (σ 0) fun x0 => vI .i64 (σ 1) fun x1 => vI .i64 (σ 2) fun x2 => span_New.p0 K x0 x1 x2 w) ?_ ?_
  ·
    exact sh_sound _ _ _ _ (Eq.mp (by kernel_rfl) h)
  · intro σ w h
    obtain ⟨x0, e0, h⟩ := vI_elim h
    obtain ⟨x1, e1, h⟩ := vI_elim h
    obtain ⟨x2, e2, h⟩ := vI_elim h
    refine J.sub ?_ ((((Sub.base _).upd e0).upd e1).upd e2)
    clear e0 e1 e2
    refine J_seq (fun σ w => vI .i64 (σ 0) fun x0 => vI .i64 (σ 1) fun x1 => vI .i64 (σ 2) fun x2 => vPa (σ 8) fun x8 => span_New.p1 K x0 x1 x2 x8 w) ?_ ?_
    ·
      exact sh_sound _ _ _ _ (Eq.mp (by kernel_rfl) h)
    · intro σ w h
      obtain ⟨x0, e0, h⟩ := vI_elim h
      obtain ⟨x1, e1, h⟩ := vI_elim h
      obtain ⟨x2, e2, h⟩ := vI_elim h
      obtain ⟨x8, e8, h⟩ := vPa_elim h
      refine J.sub ?_ (((((Sub.base _).upd e0).upd e1).upd e2).upd e8)
      clear e0 e1 e2 e8
      refine J_seq (fun σ w => vI .i64 (σ 0) fun x0 => vI .i64 (σ 1) fun x1 => vPa (σ 8) fun x8 => span_New.p4 K x0 x1 x8 w) ?_ ?_
      ·
        refine J_block ?_
        refine J_seq (fun σ w => vI .i64 (σ 0) fun x0 => vI .i64 (σ 1) fun x1 => vI .i64 (σ 2) fun x2 => vPa (σ 8) fun x8 => vB (σ 15) fun x15 => span_New.p2 K x0 x1 x2 x8 x15 w) ?_ ?_
        ·
          exact sh_sound _ _ _ _ (Eq.mp (by kernel_rfl) h)
        · intro σ w h
          obtain ⟨x0, e0, h⟩ := vI_elim h
          obtain ⟨x1, e1, h⟩ := vI_elim h
          obtain ⟨x2, e2, h⟩ := vI_elim h
          obtain ⟨x8, e8, h⟩ := vPa_elim h
          obtain ⟨x15, e15, h⟩ := vB_elim h
          refine J.sub ?_ ((((((Sub.base _).upd e0).upd e1).upd e2).upd e8).upd e15)
          clear e0 e1 e2 e8 e15
          refine J_cond' h (by kernel_rfl) (fun h => ?_) (fun h => ?_)
          ·
            exact sh_sound _ _ _ _ (Eq.mp (by kernel_rfl) h)
          ·
            refine J_seq (fun σ w => vI .i64 (σ 0) fun x0 => vI .i64 (σ 1) fun x1 => vI .i64 (σ 2) fun x2 => vPa (σ 8) fun x8 => vB (σ 22) fun x22 => span_New.p3 K x0 x1 x2 x8 x22 w) ?_ ?_
            ·
              exact sh_sound _ _ _ _ (Eq.mp (by kernel_rfl) h)
            · intro σ w h
              obtain ⟨x0, e0, h⟩ := vI_elim h
              obtain ⟨x1, e1, h⟩ := vI_elim h
              obtain ⟨x2, e2, h⟩ := vI_elim h
              obtain ⟨x8, e8, h⟩ := vPa_elim h
              obtain ⟨x22, e22, h⟩ := vB_elim h
              refine J.sub ?_ ((((((Sub.base _).upd e0).upd e1).upd e2).upd e8).upd e22)
              clear e0 e1 e2 e8 e22
              exact sh_sound _ _ _ _ (Eq.mp (by kernel_rfl) h)
      · intro σ w h
        obtain ⟨x0, e0, h⟩ := vI_elim h
        obtain ⟨x1, e1, h⟩ := vI_elim h
        obtain ⟨x8, e8, h⟩ := vPa_elim h
        refine J.sub ?_ ((((Sub.base _).upd e0).upd e1).upd e8)
        clear e0 e1 e8
        refine J_seq (fun σ w => vI .i64 (σ 1) fun x1 => vPa (σ 8) fun x8 => span_New.p6 K x1 x8 w) ?_ ?_
        ·
          refine J_seq (fun σ w => vI .i64 (σ 1) fun x1 => vPa (σ 8) fun x8 => vB (σ 54) fun x54 => span_New.p5 K x1 x8 x54 w) ?_ ?_
          ·
            exact sh_sound _ _ _ _ (Eq.mp (by kernel_rfl) h)
          · intro σ w h
            obtain ⟨x1, e1, h⟩ := vI_elim h
            obtain ⟨x8, e8, h⟩ := vPa_elim h
            obtain ⟨x54, e54, h⟩ := vB_elim h
            refine J.sub ?_ ((((Sub.base _).upd e1).upd e8).upd e54)
            clear e1 e8 e54
            exact sh_sound _ _ _ _ (Eq.mp (by kernel_rfl) h)
        · intro σ w h
          obtain ⟨x1, e1, h⟩ := vI_elim h
          obtain ⟨x8, e8, h⟩ := vPa_elim h
          refine J.sub ?_ (((Sub.base _).upd e1).upd e8)
          clear e1 e8
          exact sh_sound _ _ _ _ (Eq.mp (by kernel_rfl) h)

/-! ### (hayloft/span.taken).Live: function 64 -/
abbrev span_taken_Live.F (q0_0 : Option Addr) (K : Value → World → Prop) (w : World) : Prop :=
  wlet (w.alloc (.cells #[.pointer q0_0] 99)) fun w1 => ∃ (p2 : Option Addr), w1.cell? (⟨w.heap.size, 0, none⟩) = some (.pointer p2) ∧ CallsE Tryd.prog 76 #[.pointer p2] w1 (fun v3 w4 => ∃ (n5 : Int), v3 = .int .i64 n5 ∧ K (.int .i64 n5) w4)
theorem span_taken_Live.ok {q0_0 : Option Addr} {K : Value → World → Prop} {w : World} (h : span_taken_Live.F q0_0 K w) :
    CallsE Tryd.prog 64 #[.agg #[.pointer q0_0]] w K := by
  refine calls_of_J (n := 6) (rs := [.tmp 2]) Tryd.func64 rfl rfl rfl rfl ?_
  exact sh_sound _ _ _ _ (Eq.mp (by kernel_rfl) h)

/-! ### (*hayloft/num.Reader).Fail: function 65 -/
abbrev num_Reader_Fail.p0 (K : Value → World → Prop) (x0 : Option Addr) (x1 : Int) (x12 : Bool) (w : World) : Prop :=
  condP x12 (∃ (a3 : Addr), x0 = some a3 ∧ canStore w (a3.add 1) ∧ wlet (w.setCell (a3.add 1) (.int .i64 x1)) fun w4 => K (.tuple #[]) w4) (K (.tuple #[]) w)
abbrev num_Reader_Fail.F (q0 : Option Addr) (q1 : Int) (K : Value → World → Prop) (w : World) : Prop :=
  condP (!q0.isNone) (∃ (a1 : Addr), q0 = some a1 ∧ ∃ (n2 : Int), w.cell? (a1.add 1) = some (.int .i64 n2) ∧ num_Reader_Fail.p0 K q0 q1 (n2 == (0 : Int)) w) (num_Reader_Fail.p0 K q0 q1 false w)
theorem num_Reader_Fail.ok {q0 : Option Addr} {q1 : Int} {K : Value → World → Prop} {w : World} (h : num_Reader_Fail.F q0 q1 K w) :
    CallsE Tryd.prog 65 #[.pointer q0, .int .i64 q1] w K := by
  refine calls_of_J (n := 17) (rs := []) Tryd.func65 rfl rfl rfl rfl ?_
  refine J_seq (fun σ w => vP (σ 0) fun x0 => vI .i64 (σ 1) fun x1 => vB (σ 12) fun x12 => num_Reader_Fail.p0 K x0 x1 x12 w) ?_ ?_
  ·
    exact sh_sound _ _ _ _ (Eq.mp (by kernel_rfl) h)
  · intro σ w h
    obtain ⟨x0, e0, h⟩ := vP_elim h
    obtain ⟨x1, e1, h⟩ := vI_elim h
    obtain ⟨x12, e12, h⟩ := vB_elim h
    refine J.sub ?_ ((((Sub.base _).upd e0).upd e1).upd e12)
    clear e0 e1 e12
    exact sh_sound _ _ _ _ (Eq.mp (by kernel_rfl) h)

/-! ### (*hayloft/num.Reader).Err: function 66 -/
abbrev num_Reader_Err.F (q0 : Option Addr) (K : Value → World → Prop) (w : World) : Prop :=
  condP q0.isNone (K (.int .i64 1) w) (∃ (a1 : Addr), q0 = some a1 ∧ ∃ (n2 : Int), w.cell? (a1.add 1) = some (.int .i64 n2) ∧ K (.int .i64 n2) w)
theorem num_Reader_Err.ok {q0 : Option Addr} {K : Value → World → Prop} {w : World} (h : num_Reader_Err.F q0 K w) :
    CallsE Tryd.prog 66 #[.pointer q0] w K := by
  refine calls_of_J (n := 9) (rs := [.tmp 2]) Tryd.func66 rfl rfl rfl rfl ?_
  exact sh_sound _ _ _ _ (Eq.mp (by kernel_rfl) h)

/-! ### hayloft/set.Read: function 67 -/
abbrev set_Read.p9 (L0 : Int → Option Addr → Option Addr → Nat → Nat → Int → Int → World → Prop) (K : Value → World → Prop) (x0 : Int) (x7 : Option Addr) (x31A : Option Addr) (x31n : Nat) (x31c : Nat) (x32 : Int) (x33 : Int) (w : World) : Prop :=
  L0 x0 x7 x31A x31n x31c x32 (IntKind.wrap .i64 (x33 + (1 : Int))) w
abbrev set_Read.p8 (L0 : Int → Option Addr → Option Addr → Nat → Nat → Int → Int → World → Prop) (K : Value → World → Prop) (x0 : Int) (x7 : Option Addr) (x8 : Int) (x9 : Int) (x31A : Option Addr) (x31n : Nat) (x31c : Nat) (x32 : Int) (x33 : Int) (w : World) : Prop :=
  ∃ (S6 : Array Obj → Prop), S6 w.heap ∧ ∃ (a7 : Addr), x7 = some a7 ∧ (8 : Int) ≠ 0 ∧ (8 : Int) ≠ 0 ∧ 0 ≤ (IntKind.wrap .i64 ((8 : Int) * (Int.tmod x8 8))) ∧ ∃ (A8 : Option Addr) (m9 : Nat) (c10 : Nat), (∀ w' : World, S6 w'.heap → w'.cell? (a7.add 1) = some (.slice A8 m9 c10)) ∧ (0 ≤ (IntKind.wrap .i64 (Int.tdiv x8 8)) ∧ (IntKind.wrap .i64 (Int.tdiv x8 8)) < ((m9 : Nat) : Int)) ∧ ∃ (a11 : Addr), A8 = some a11 ∧ ∃ (n12 : Int), (∀ w' : World, S6 w'.heap → w'.cell? (a11.add ((IntKind.wrap .i64 (Int.tdiv x8 8)).toNat)) = some (.int .u64 n12)) ∧ (0 ≤ (IntKind.wrap .i64 (Int.tdiv x8 8)) ∧ (IntKind.wrap .i64 (Int.tdiv x8 8)) < ((m9 : Nat) : Int)) ∧ ∃ (a13 : Addr), A8 = some a13 ∧ canStore w (a13.add ((IntKind.wrap .i64 (Int.tdiv x8 8)).toNat)) ∧ wlet (w.setCell (a13.add ((IntKind.wrap .i64 (Int.tdiv x8 8)).toNat)) (.int .u64 (ibits .or .u64 n12 (ishl .u64 (IntKind.wrap .u64 x9) (IntKind.wrap .i64 ((8 : Int) * (Int.tmod x8 8))))))) fun w14 => set_Read.p9 L0 K x0 x7 x31A x31n x31c x32 x33 w14
abbrev set_Read.p7 (L0 : Int → Option Addr → Option Addr → Nat → Nat → Int → Int → World → Prop) (K : Value → World → Prop) (x0 : Int) (x7 : Option Addr) (x31A : Option Addr) (x31n : Nat) (x31c : Nat) (x32 : Int) (x33 : Int) (w : World) : Prop :=
  (0 ≤ x33 ∧ x33 < ((x31n : Nat) : Int)) ∧ ∃ (a4 : Addr), x31A = some a4 ∧ ∃ (n5 : Int), w.cell? (a4.add x33.toNat) = some (.int .u8 n5) ∧ set_Read.p8 L0 K x0 x7 x33 n5 x31A x31n x31c x32 x33 w
abbrev set_Read.p12 (K : Value → World → Prop) (x7 : Option Addr) (w : World) : Prop :=
  K (.tuple #[.pointer x7, .int .i64 0]) w
abbrev set_Read.p11 (K : Value → World → Prop) (x7 : Option Addr) (x71 : Bool) (w : World) : Prop :=
  condP x71 (K (.tuple #[.pointer none, .int .i64 4]) w) (set_Read.p12 K x7 w)
abbrev set_Read.p10 (K : Value → World → Prop) (x0 : Int) (x7 : Option Addr) (w : World) : Prop :=
  (64 : Int) ≠ 0 ∧ condP ((Int.tmod x0 64) != (0 : Int)) (∃ (a15 : Addr), x7 = some a15 ∧ ∃ (A16 : Option Addr) (m17 : Nat) (c18 : Nat), w.cell? (a15.add 1) = some (.slice A16 m17 c18) ∧ (64 : Int) ≠ 0 ∧ (0 ≤ (IntKind.wrap .i64 (Int.tdiv x0 64)) ∧ (IntKind.wrap .i64 (Int.tdiv x0 64)) < ((m17 : Nat) : Int)) ∧ ∃ (a19 : Addr), A16 = some a19 ∧ ∃ (n20 : Int), w.cell? (a19.add ((IntKind.wrap .i64 (Int.tdiv x0 64)).toNat)) = some (.int .u64 n20) ∧ (64 : Int) ≠ 0 ∧ 0 ≤ (Int.tmod x0 64) ∧ set_Read.p11 K x7 ((ishr .u64 n20 (Int.tmod x0 64)) != (0 : Int)) w) (set_Read.p11 K x7 false w)
abbrev set_Read.p6 (L0 : Int → Option Addr → Option Addr → Nat → Nat → Int → Int → World → Prop) (K : Value → World → Prop) (x0 : Int) (x7 : Option Addr) (x31A : Option Addr) (x31n : Nat) (x31c : Nat) (x32 : Int) (x33 : Int) (x34 : Bool) (w : World) : Prop :=
  condP x34 (set_Read.p7 L0 K x0 x7 x31A x31n x31c x32 x33 w) (set_Read.p10 K x0 x7 w)
abbrev set_Read.b0 (L0 : Int → Option Addr → Option Addr → Nat → Nat → Int → Int → World → Prop) (K : Value → World → Prop) (x0 : Int) (x7 : Option Addr) (x31A : Option Addr) (x31n : Nat) (x31c : Nat) (x32 : Int) (x33 : Int) (w : World) : Prop :=
  set_Read.p6 L0 K x0 x7 x31A x31n x31c x32 x33 (decide (x33 < x32)) w
def set_Read.l0 (K : Value → World → Prop) (k : Nat) : Int → Option Addr → Option Addr → Nat → Nat → Int → Int → World → Prop :=
  Nat.rec (motive := fun _ => Int → Option Addr → Option Addr → Nat → Nat → Int → Int → World → Prop) (fun _ _ _ _ _ _ _ _ => False) (fun _ ih => set_Read.b0 ih K) k
theorem set_Read.l0_succ (K : Value → World → Prop) (k : Nat) (x0 : Int) (x7 : Option Addr) (x31A : Option Addr) (x31n : Nat) (x31c : Nat) (x32 : Int) (x33 : Int) (w : World) : set_Read.l0 K (k + 1) x0 x7 x31A x31n x31c x32 x33 w = set_Read.b0 (set_Read.l0 K k) K x0 x7 x31A x31n x31c x32 x33 w := rfl
abbrev set_Read.p5 (K : Value → World → Prop) (x0 : Int) (x7 : Option Addr) (x31A : Option Addr) (x31n : Nat) (x31c : Nat) (x32 : Int) (x33 : Int) (w : World) : Prop :=
  ∃ k, set_Read.l0 K k x0 x7 x31A x31n x31c x32 x33 w
abbrev set_Read.p4 (K : Value → World → Prop) (x0 : Int) (x1A : Option Addr) (x1n : Nat) (x1c : Nat) (x7 : Option Addr) (w : World) : Prop :=
  set_Read.p5 K x0 x7 x1A x1n x1c ((x1n : Nat) : Int) 0 w
abbrev set_Read.p3 (K : Value → World → Prop) (x0 : Int) (x1A : Option Addr) (x1n : Nat) (x1c : Nat) (w : World) : Prop :=
  CallsE Tryd.prog 23 #[.int .i64 x0] w (fun v1 w2 => ∃ (p3 : Option Addr), v1 = .pointer p3 ∧ set_Read.p4 K x0 x1A x1n x1c p3 w2)
abbrev set_Read.p2 (K : Value → World → Prop) (x0 : Int) (x1A : Option Addr) (x1n : Nat) (x1c : Nat) (w : World) : Prop :=
  (8 : Int) ≠ 0 ∧ condP (decide (((x1n : Nat) : Int) < (IntKind.wrap .i64 (Int.tdiv (IntKind.wrap .i64 (x0 + (7 : Int))) 8)))) (K (.tuple #[.pointer none, .int .i64 3]) w) (condP (decide ((IntKind.wrap .i64 (Int.tdiv (IntKind.wrap .i64 (x0 + (7 : Int))) 8)) < ((x1n : Nat) : Int))) (K (.tuple #[.pointer none, .int .i64 6]) w) (set_Read.p3 K x0 x1A x1n x1c w))
abbrev set_Read.p1 (K : Value → World → Prop) (x0 : Int) (x1A : Option Addr) (x1n : Nat) (x1c : Nat) (x15 : Bool) (w : World) : Prop :=
  condP x15 (K (.tuple #[.pointer none, .int .i64 2]) w) (set_Read.p2 K x0 x1A x1n x1c w)
abbrev set_Read.p0 (K : Value → World → Prop) (x0 : Int) (x1A : Option Addr) (x1n : Nat) (x1c : Nat) (w : World) : Prop :=
  condP (decide (x0 < (0 : Int))) (set_Read.p1 K x0 x1A x1n x1c true w) (set_Read.p1 K x0 x1A x1n x1c (decide ((65536 : Int) < x0)) w)
abbrev set_Read.F (q0 : Int) (q1A : Option Addr) (q1n : Nat) (q1c : Nat) (K : Value → World → Prop) (w : World) : Prop :=
  set_Read.p0 K q0 q1A q1n q1c w
theorem set_Read.ok {q0 : Int} {q1A : Option Addr} {q1n : Nat} {q1c : Nat} {K : Value → World → Prop} {w : World} (h : set_Read.F q0 q1A q1n q1c K w) :
    CallsE Tryd.prog 67 #[.int .i64 q0, .slice q1A q1n q1c] w K := by
  refine calls_of_J (n := 73) (rs := [.tmp 4, .tmp 5]) Tryd.func67 rfl rfl rfl rfl ?_
  refine J_seq (fun σ w => vI .i64 (σ 0) fun x0 => vS (σ 1) fun x1A x1n x1c => set_Read.p0 K x0 x1A x1n x1c w) ?_ ?_
  ·
    exact sh_sound _ _ _ _ (Eq.mp (by kernel_rfl) h)
  · intro σ w h
    obtain ⟨x0, e0, h⟩ := vI_elim h
    obtain ⟨x1A, x1n, x1c, e1, h⟩ := vS_elim h
    refine J.sub ?_ (((Sub.base _).upd e0).upd e1)
    clear e0 e1
    refine J_seq (fun σ w => vI .i64 (σ 0) fun x0 => vS (σ 1) fun x1A x1n x1c => set_Read.p2 K x0 x1A x1n x1c w) ?_ ?_
    ·
      refine J_seq (fun σ w => vI .i64 (σ 0) fun x0 => vS (σ 1) fun x1A x1n x1c => vB (σ 15) fun x15 => set_Read.p1 K x0 x1A x1n x1c x15 w) ?_ ?_
      ·
        exact sh_sound _ _ _ _ (Eq.mp (by kernel_rfl) h)
      · intro σ w h
        obtain ⟨x0, e0, h⟩ := vI_elim h
        obtain ⟨x1A, x1n, x1c, e1, h⟩ := vS_elim h
        obtain ⟨x15, e15, h⟩ := vB_elim h
        refine J.sub ?_ ((((Sub.base _).upd e0).upd e1).upd e15)
        clear e0 e1 e15
        exact sh_sound _ _ _ _ (Eq.mp (by kernel_rfl) h)
    · intro σ w h
      obtain ⟨x0, e0, h⟩ := vI_elim h
      obtain ⟨x1A, x1n, x1c, e1, h⟩ := vS_elim h
      refine J.sub ?_ (((Sub.base _).upd e0).upd e1)
      clear e0 e1
      refine J_seq (fun σ w => vI .i64 (σ 0) fun x0 => vS (σ 1) fun x1A x1n x1c => set_Read.p3 K x0 x1A x1n x1c w) ?_ ?_
      ·
        exact sh_sound _ _ _ _ (Eq.mp (by kernel_rfl) h)
      · intro σ w h
        obtain ⟨x0, e0, h⟩ := vI_elim h
        obtain ⟨x1A, x1n, x1c, e1, h⟩ := vS_elim h
        refine J.sub ?_ (((Sub.base _).upd e0).upd e1)
        clear e0 e1
        refine J_seq (fun σ w => vI .i64 (σ 0) fun x0 => vS (σ 1) fun x1A x1n x1c => vP (σ 7) fun x7 => set_Read.p4 K x0 x1A x1n x1c x7 w) ?_ ?_
        ·
          exact sh_sound _ _ _ _ (Eq.mp (by kernel_rfl) h)
        · intro σ w h
          obtain ⟨x0, e0, h⟩ := vI_elim h
          obtain ⟨x1A, x1n, x1c, e1, h⟩ := vS_elim h
          obtain ⟨x7, e7, h⟩ := vP_elim h
          refine J.sub ?_ ((((Sub.base _).upd e0).upd e1).upd e7)
          clear e0 e1 e7
          refine J_seq (fun σ w => vI .i64 (σ 0) fun x0 => vP (σ 7) fun x7 => set_Read.p10 K x0 x7 w) ?_ ?_
          ·
            refine J_seq (fun σ w => vI .i64 (σ 0) fun x0 => vP (σ 7) fun x7 => vS (σ 31) fun x31A x31n x31c => vI .i64 (σ 32) fun x32 => vI .i64 (σ 33) fun x33 => set_Read.p5 K x0 x7 x31A x31n x31c x32 x33 w) ?_ ?_
            ·
              exact sh_sound _ _ _ _ (Eq.mp (by kernel_rfl) h)
            · intro σ w h
              obtain ⟨x0, e0, h⟩ := vI_elim h
              obtain ⟨x7, e7, h⟩ := vP_elim h
              obtain ⟨x31A, x31n, x31c, e31, h⟩ := vS_elim h
              obtain ⟨x32, e32, h⟩ := vI_elim h
              obtain ⟨x33, e33, h⟩ := vI_elim h
              refine J.sub ?_ ((((((Sub.base _).upd e0).upd e7).upd e31).upd e32).upd e33)
              clear e0 e7 e31 e32 e33
              refine J_block ?_
              refine J_loop (fun k σ w => vI .i64 (σ 0) fun x0 => vP (σ 7) fun x7 => vS (σ 31) fun x31A x31n x31c => vI .i64 (σ 32) fun x32 => vI .i64 (σ 33) fun x33 => set_Read.l0 K k x0 x7 x31A x31n x31c x32 x33 w) (Eq.mp (by kernel_rfl) h) ?_ ?_
              · intro σ w h
                obtain ⟨x0, e0, h⟩ := vI_elim h
                obtain ⟨x7, e7, h⟩ := vP_elim h
                obtain ⟨x31A, x31n, x31c, e31, h⟩ := vS_elim h
                obtain ⟨x32, e32, h⟩ := vI_elim h
                obtain ⟨x33, e33, h⟩ := vI_elim h
                exact h
              · intro k0 σ w h
                obtain ⟨x0, e0, h⟩ := vI_elim h
                obtain ⟨x7, e7, h⟩ := vP_elim h
                obtain ⟨x31A, x31n, x31c, e31, h⟩ := vS_elim h
                obtain ⟨x32, e32, h⟩ := vI_elim h
                obtain ⟨x33, e33, h⟩ := vI_elim h
                refine J.sub ?_ ((((((Sub.base _).upd e0).upd e7).upd e31).upd e32).upd e33)
                clear e0 e7 e31 e32 e33
                refine J_seq (fun σ w => vI .i64 (σ 0) fun x0 => vP (σ 7) fun x7 => vS (σ 31) fun x31A x31n x31c => vI .i64 (σ 32) fun x32 => vI .i64 (σ 33) fun x33 => vB (σ 34) fun x34 => set_Read.p6 (set_Read.l0 K k0) K x0 x7 x31A x31n x31c x32 x33 x34 w) ?_ ?_
                ·
                  exact sh_sound _ _ _ _ (Eq.mp (by kernel_rfl) h)
                · intro σ w h
                  obtain ⟨x0, e0, h⟩ := vI_elim h
                  obtain ⟨x7, e7, h⟩ := vP_elim h
                  obtain ⟨x31A, x31n, x31c, e31, h⟩ := vS_elim h
                  obtain ⟨x32, e32, h⟩ := vI_elim h
                  obtain ⟨x33, e33, h⟩ := vI_elim h
                  obtain ⟨x34, e34, h⟩ := vB_elim h
                  refine J.sub ?_ (((((((Sub.base _).upd e0).upd e7).upd e31).upd e32).upd e33).upd e34)
                  clear e0 e7 e31 e32 e33 e34
                  refine J_seq (fun σ w => vI .i64 (σ 0) fun x0 => vP (σ 7) fun x7 => vS (σ 31) fun x31A x31n x31c => vI .i64 (σ 32) fun x32 => vI .i64 (σ 33) fun x33 => set_Read.p7 (set_Read.l0 K k0) K x0 x7 x31A x31n x31c x32 x33 w) ?_ ?_
                  ·
                    exact sh_sound _ _ _ _ (Eq.mp (by kernel_rfl) h)
                  · intro σ w h
                    obtain ⟨x0, e0, h⟩ := vI_elim h
                    obtain ⟨x7, e7, h⟩ := vP_elim h
                    obtain ⟨x31A, x31n, x31c, e31, h⟩ := vS_elim h
                    obtain ⟨x32, e32, h⟩ := vI_elim h
                    obtain ⟨x33, e33, h⟩ := vI_elim h
                    refine J.sub ?_ ((((((Sub.base _).upd e0).upd e7).upd e31).upd e32).upd e33)
                    clear e0 e7 e31 e32 e33
                    refine J_seq (fun σ w => vI .i64 (σ 0) fun x0 => vP (σ 7) fun x7 => vS (σ 31) fun x31A x31n x31c => vI .i64 (σ 32) fun x32 => vI .i64 (σ 33) fun x33 => set_Read.p9 (set_Read.l0 K k0) K x0 x7 x31A x31n x31c x32 x33 w) ?_ ?_
                    ·
                      refine J_block ?_
                      refine J_seq (fun σ w => vI .i64 (σ 0) fun x0 => vP (σ 7) fun x7 => vI .i64 (σ 8) fun x8 => vI .u8 (σ 9) fun x9 => vS (σ 31) fun x31A x31n x31c => vI .i64 (σ 32) fun x32 => vI .i64 (σ 33) fun x33 => set_Read.p8 (set_Read.l0 K k0) K x0 x7 x8 x9 x31A x31n x31c x32 x33 w) ?_ ?_
                      ·
                        exact sh_sound _ _ _ _ (Eq.mp (by kernel_rfl) h)
                      · intro σ w h
                        obtain ⟨x0, e0, h⟩ := vI_elim h
                        obtain ⟨x7, e7, h⟩ := vP_elim h
                        obtain ⟨x8, e8, h⟩ := vI_elim h
                        obtain ⟨x9, e9, h⟩ := vI_elim h
                        obtain ⟨x31A, x31n, x31c, e31, h⟩ := vS_elim h
                        obtain ⟨x32, e32, h⟩ := vI_elim h
                        obtain ⟨x33, e33, h⟩ := vI_elim h
                        refine J.sub ?_ ((((((((Sub.base _).upd e0).upd e7).upd e8).upd e9).upd e31).upd e32).upd e33)
                        clear e0 e7 e8 e9 e31 e32 e33
                        exact J_held [16] [(0, 0), (1, 0), (2, 0), (4, 0), (5, 0), (8, 0), (9, 0), (10, 0), (11, 0), (12, 0), (13, 0), (3, 1), (6, 0), (7, 1), (14, 0), (15, 0), (16, 3)] (by kernel_rfl) (Eq.mp (by kernel_rfl) h)
                    · intro σ w h
                      obtain ⟨x0, e0, h⟩ := vI_elim h
                      obtain ⟨x7, e7, h⟩ := vP_elim h
                      obtain ⟨x31A, x31n, x31c, e31, h⟩ := vS_elim h
                      obtain ⟨x32, e32, h⟩ := vI_elim h
                      obtain ⟨x33, e33, h⟩ := vI_elim h
                      refine J.sub ?_ ((((((Sub.base _).upd e0).upd e7).upd e31).upd e32).upd e33)
                      clear e0 e7 e31 e32 e33
                      exact sh_sound _ _ _ _ (Eq.mp (by kernel_rfl) h)
          · intro σ w h
            obtain ⟨x0, e0, h⟩ := vI_elim h
            obtain ⟨x7, e7, h⟩ := vP_elim h
            refine J.sub ?_ (((Sub.base _).upd e0).upd e7)
            clear e0 e7
            refine J_seq (fun σ w => vP (σ 7) fun x7 => set_Read.p12 K x7 w) ?_ ?_
            ·
              refine J_seq (fun σ w => vP (σ 7) fun x7 => vB (σ 71) fun x71 => set_Read.p11 K x7 x71 w) ?_ ?_
              ·
                exact sh_sound _ _ _ _ (Eq.mp (by kernel_rfl) h)
              · intro σ w h
                obtain ⟨x7, e7, h⟩ := vP_elim h
                obtain ⟨x71, e71, h⟩ := vB_elim h
                refine J.sub ?_ (((Sub.base _).upd e7).upd e71)
                clear e7 e71
                exact sh_sound _ _ _ _ (Eq.mp (by kernel_rfl) h)
            · intro σ w h
              obtain ⟨x7, e7, h⟩ := vP_elim h
              refine J.sub ?_ ((Sub.base _).upd e7)
              clear e7
              exact sh_sound _ _ _ _ (Eq.mp (by kernel_rfl) h)

/-! ### (*hayloft/set.Set).List: function 68 -/
abbrev set_Set_List.p3 (K : Value → World → Prop) (x3A : Option Addr) (x3n : Nat) (x3c : Nat) (w : World) : Prop :=
  K (.slice x3A x3n x3c) w
abbrev set_Set_List.b0 (L0 : Option Addr → Option Addr → Nat → Nat → Int → World → Prop) (K : Value → World → Prop) (x0 : Option Addr) (x3A : Option Addr) (x3n : Nat) (x3c : Nat) (x4 : Int) (w : World) : Prop :=
  condP (decide ((0 : Int) ≤ x4)) (wlet (w.alloc (.cells #[.int .i64 x4] 3)) fun w4 => SemJ Tryd.prog (Builtin.append_ #[22, 22] 22 #[.slice x3A x3n x3c, .slice (some ⟨w.heap.size, 0, none⟩) 1 1]) (fun v5 w6 => ∃ (A7 : Option Addr) (m8 : Nat) (c9 : Nat), v5 = .slice A7 m8 c9 ∧ CallsE Tryd.prog 77 #[.pointer x0, .int .i64 (IntKind.wrap .i64 (x4 + (1 : Int)))] w6 (fun v10 w11 => ∃ (n12 : Int), v10 = .int .i64 n12 ∧ L0 x0 A7 m8 c9 n12 w11)) w4) (set_Set_List.p3 K x3A x3n x3c w)
def set_Set_List.l0 (K : Value → World → Prop) (k : Nat) : Option Addr → Option Addr → Nat → Nat → Int → World → Prop :=
  Nat.rec (motive := fun _ => Option Addr → Option Addr → Nat → Nat → Int → World → Prop) (fun _ _ _ _ _ _ => False) (fun _ ih => set_Set_List.b0 ih K) k
theorem set_Set_List.l0_succ (K : Value → World → Prop) (k : Nat) (x0 : Option Addr) (x3A : Option Addr) (x3n : Nat) (x3c : Nat) (x4 : Int) (w : World) : set_Set_List.l0 K (k + 1) x0 x3A x3n x3c x4 w = set_Set_List.b0 (set_Set_List.l0 K k) K x0 x3A x3n x3c x4 w := rfl
abbrev set_Set_List.p2 (K : Value → World → Prop) (x0 : Option Addr) (x3A : Option Addr) (x3n : Nat) (x3c : Nat) (x4 : Int) (w : World) : Prop :=
  ∃ k, set_Set_List.l0 K k x0 x3A x3n x3c x4 w
abbrev set_Set_List.p1 (K : Value → World → Prop) (x0 : Option Addr) (x3A : Option Addr) (x3n : Nat) (x3c : Nat) (w : World) : Prop :=
  CallsE Tryd.prog 77 #[.pointer x0, .int .i64 0] w (fun v1 w2 => ∃ (n3 : Int), v1 = .int .i64 n3 ∧ set_Set_List.p2 K x0 x3A x3n x3c n3 w2)
abbrev set_Set_List.p0 (K : Value → World → Prop) (x0 : Option Addr) (w : World) : Prop :=
  set_Set_List.p1 K x0 none 0 0 w
abbrev set_Set_List.F (q0 : Option Addr) (K : Value → World → Prop) (w : World) : Prop :=
  set_Set_List.p0 K q0 w
theorem set_Set_List.ok {q0 : Option Addr} {K : Value → World → Prop} {w : World} (h : set_Set_List.F q0 K w) :
    CallsE Tryd.prog 68 #[.pointer q0] w K := by
  refine calls_of_J (n := 18) (rs := [.tmp 2]) Tryd.func68 rfl rfl rfl rfl ?_
  refine J_seq (fun σ w => vP (σ 0) fun x0 => set_Set_List.p0 K x0 w) ?_ ?_
  ·
    exact sh_sound _ _ _ _ (Eq.mp (by kernel_rfl) h)
  · intro σ w h
    obtain ⟨x0, e0, h⟩ := vP_elim h
    refine J.sub ?_ ((Sub.base _).upd e0)
    clear e0
    refine J_seq (fun σ w => vP (σ 0) fun x0 => vS (σ 3) fun x3A x3n x3c => set_Set_List.p1 K x0 x3A x3n x3c w) ?_ ?_
    ·
      exact sh_sound _ _ _ _ (Eq.mp (by kernel_rfl) h)
    · intro σ w h
      obtain ⟨x0, e0, h⟩ := vP_elim h
      obtain ⟨x3A, x3n, x3c, e3, h⟩ := vS_elim h
      refine J.sub ?_ (((Sub.base _).upd e0).upd e3)
      clear e0 e3
      refine J_seq (fun σ w => vS (σ 3) fun x3A x3n x3c => set_Set_List.p3 K x3A x3n x3c w) ?_ ?_
      ·
        refine J_seq (fun σ w => vP (σ 0) fun x0 => vS (σ 3) fun x3A x3n x3c => vI .i64 (σ 4) fun x4 => set_Set_List.p2 K x0 x3A x3n x3c x4 w) ?_ ?_
        ·
          exact sh_sound _ _ _ _ (Eq.mp (by kernel_rfl) h)
        · intro σ w h
          obtain ⟨x0, e0, h⟩ := vP_elim h
          obtain ⟨x3A, x3n, x3c, e3, h⟩ := vS_elim h
          obtain ⟨x4, e4, h⟩ := vI_elim h
          refine J.sub ?_ ((((Sub.base _).upd e0).upd e3).upd e4)
          clear e0 e3 e4
          refine J_block ?_
          refine J_loop (fun k σ w => vP (σ 0) fun x0 => vS (σ 3) fun x3A x3n x3c => vI .i64 (σ 4) fun x4 => set_Set_List.l0 K k x0 x3A x3n x3c x4 w) (Eq.mp (by kernel_rfl) h) ?_ ?_
          · intro σ w h
            obtain ⟨x0, e0, h⟩ := vP_elim h
            obtain ⟨x3A, x3n, x3c, e3, h⟩ := vS_elim h
            obtain ⟨x4, e4, h⟩ := vI_elim h
            exact h
          · intro k0 σ w h
            obtain ⟨x0, e0, h⟩ := vP_elim h
            obtain ⟨x3A, x3n, x3c, e3, h⟩ := vS_elim h
            obtain ⟨x4, e4, h⟩ := vI_elim h
            refine J.sub ?_ ((((Sub.base _).upd e0).upd e3).upd e4)
            clear e0 e3 e4
            exact sh_sound _ _ _ _ (Eq.mp (by kernel_rfl) h)
      · intro σ w h
        obtain ⟨x3A, x3n, x3c, e3, h⟩ := vS_elim h
        refine J.sub ?_ ((Sub.base _).upd e3)
        clear e3
        exact sh_sound _ _ _ _ (Eq.mp (by kernel_rfl) h)

/-! ### (*hayloft/num.Reader).Var: function 69 -/
abbrev num_Reader_Var.p10 (L0 : Option Addr → Int → Option Addr → Nat → Nat → Int → Int → World → Prop) (K : Value → World → Prop) (x0 : Option Addr) (x3 : Int) (x18A : Option Addr) (x18n : Nat) (x18c : Nat) (x19 : Int) (x20 : Int) (w : World) : Prop :=
  L0 x0 x3 x18A x18n x18c x19 (IntKind.wrap .i64 (x20 + (1 : Int))) w
abbrev num_Reader_Var.p9 (L0 : Option Addr → Int → Option Addr → Nat → Nat → Int → Int → World → Prop) (K : Value → World → Prop) (x0 : Option Addr) (x3 : Int) (x4 : Int) (x5 : Int) (x18A : Option Addr) (x18n : Nat) (x18c : Nat) (x19 : Int) (x20 : Int) (w : World) : Prop :=
  0 ≤ (IntKind.wrap .i64 ((7 : Int) * x4)) ∧ condP (decide (x5 < (128 : Int))) (∃ (a9 : Addr), x0 = some a9 ∧ ∃ (A10 : Option Addr) (m11 : Nat) (c12 : Nat), w.cell? a9 = some (.slice A10 m11 c12) ∧ (0 ≤ (IntKind.wrap .i64 (x4 + (1 : Int))) ∧ (IntKind.wrap .i64 (x4 + (1 : Int))) ≤ ((m11 : Nat) : Int)) ∧ ∃ (a13 : Addr), x0 = some a13 ∧ canStore w a13 ∧ wlet (w.setCell a13 (.slice (slA A10 ((IntKind.wrap .i64 (x4 + (1 : Int))).toNat) c12 1) (m11 - ((IntKind.wrap .i64 (x4 + (1 : Int))).toNat)) (c12 - ((IntKind.wrap .i64 (x4 + (1 : Int))).toNat)))) fun w14 => K (.int .u64 (ibits .or .u64 x3 (ishl .u64 (IntKind.wrap .u64 (ibits .and .u8 x5 127)) (IntKind.wrap .i64 ((7 : Int) * x4))))) w14) (num_Reader_Var.p10 L0 K x0 (ibits .or .u64 x3 (ishl .u64 (IntKind.wrap .u64 (ibits .and .u8 x5 127)) (IntKind.wrap .i64 ((7 : Int) * x4)))) x18A x18n x18c x19 x20 w)
abbrev num_Reader_Var.p8 (L0 : Option Addr → Int → Option Addr → Nat → Nat → Int → Int → World → Prop) (K : Value → World → Prop) (x0 : Option Addr) (x3 : Int) (x4 : Int) (x5 : Int) (x18A : Option Addr) (x18n : Nat) (x18c : Nat) (x19 : Int) (x20 : Int) (x38 : Bool) (w : World) : Prop :=
  condP x38 (∃ (a7 : Addr), x0 = some a7 ∧ canStore w (a7.add 1) ∧ wlet (w.setCell (a7.add 1) (.int .i64 4)) fun w8 => K (.int .u64 0) w8) (num_Reader_Var.p9 L0 K x0 x3 x4 x5 x18A x18n x18c x19 x20 w)
abbrev num_Reader_Var.p7 (L0 : Option Addr → Int → Option Addr → Nat → Nat → Int → Int → World → Prop) (K : Value → World → Prop) (x0 : Option Addr) (x3 : Int) (x4 : Int) (x5 : Int) (x18A : Option Addr) (x18n : Nat) (x18c : Nat) (x19 : Int) (x20 : Int) (w : World) : Prop :=
  condP (x4 == (9 : Int)) (condP (decide ((1 : Int) < x5)) (num_Reader_Var.p8 L0 K x0 x3 x4 x5 x18A x18n x18c x19 x20 true w) (condP (decide ((0 : Int) < x4)) (num_Reader_Var.p8 L0 K x0 x3 x4 x5 x18A x18n x18c x19 x20 (x5 == (0 : Int)) w) (num_Reader_Var.p8 L0 K x0 x3 x4 x5 x18A x18n x18c x19 x20 false w))) (condP (decide ((0 : Int) < x4)) (num_Reader_Var.p8 L0 K x0 x3 x4 x5 x18A x18n x18c x19 x20 (x5 == (0 : Int)) w) (num_Reader_Var.p8 L0 K x0 x3 x4 x5 x18A x18n x18c x19 x20 false w))
abbrev num_Reader_Var.p6 (L0 : Option Addr → Int → Option Addr → Nat → Nat → Int → Int → World → Prop) (K : Value → World → Prop) (x0 : Option Addr) (x3 : Int) (x18A : Option Addr) (x18n : Nat) (x18c : Nat) (x19 : Int) (x20 : Int) (w : World) : Prop :=
  (0 ≤ x20 ∧ x20 < ((x18n : Nat) : Int)) ∧ ∃ (a5 : Addr), x18A = some a5 ∧ ∃ (n6 : Int), w.cell? (a5.add x20.toNat) = some (.int .u8 n6) ∧ num_Reader_Var.p7 L0 K x0 x3 x20 n6 x18A x18n x18c x19 x20 w
abbrev num_Reader_Var.p11 (K : Value → World → Prop) (x0 : Option Addr) (w : World) : Prop :=
  ∃ (a15 : Addr), x0 = some a15 ∧ canStore w (a15.add 1) ∧ wlet (w.setCell (a15.add 1) (.int .i64 3)) fun w16 => K (.int .u64 0) w16
abbrev num_Reader_Var.p5 (L0 : Option Addr → Int → Option Addr → Nat → Nat → Int → Int → World → Prop) (K : Value → World → Prop) (x0 : Option Addr) (x3 : Int) (x18A : Option Addr) (x18n : Nat) (x18c : Nat) (x19 : Int) (x20 : Int) (x21 : Bool) (w : World) : Prop :=
  condP x21 (num_Reader_Var.p6 L0 K x0 x3 x18A x18n x18c x19 x20 w) (num_Reader_Var.p11 K x0 w)
abbrev num_Reader_Var.b0 (L0 : Option Addr → Int → Option Addr → Nat → Nat → Int → Int → World → Prop) (K : Value → World → Prop) (x0 : Option Addr) (x3 : Int) (x18A : Option Addr) (x18n : Nat) (x18c : Nat) (x19 : Int) (x20 : Int) (w : World) : Prop :=
  num_Reader_Var.p5 L0 K x0 x3 x18A x18n x18c x19 x20 (decide (x20 < x19)) w
def num_Reader_Var.l0 (K : Value → World → Prop) (k : Nat) : Option Addr → Int → Option Addr → Nat → Nat → Int → Int → World → Prop :=
  Nat.rec (motive := fun _ => Option Addr → Int → Option Addr → Nat → Nat → Int → Int → World → Prop) (fun _ _ _ _ _ _ _ _ => False) (fun _ ih => num_Reader_Var.b0 ih K) k
theorem num_Reader_Var.l0_succ (K : Value → World → Prop) (k : Nat) (x0 : Option Addr) (x3 : Int) (x18A : Option Addr) (x18n : Nat) (x18c : Nat) (x19 : Int) (x20 : Int) (w : World) : num_Reader_Var.l0 K (k + 1) x0 x3 x18A x18n x18c x19 x20 w = num_Reader_Var.b0 (num_Reader_Var.l0 K k) K x0 x3 x18A x18n x18c x19 x20 w := rfl
abbrev num_Reader_Var.p4 (K : Value → World → Prop) (x0 : Option Addr) (x3 : Int) (x18A : Option Addr) (x18n : Nat) (x18c : Nat) (x19 : Int) (x20 : Int) (w : World) : Prop :=
  ∃ k, num_Reader_Var.l0 K k x0 x3 x18A x18n x18c x19 x20 w
abbrev num_Reader_Var.p3 (K : Value → World → Prop) (x0 : Option Addr) (x3 : Int) (w : World) : Prop :=
  ∃ (a1 : Addr), x0 = some a1 ∧ ∃ (A2 : Option Addr) (m3 : Nat) (c4 : Nat), w.cell? a1 = some (.slice A2 m3 c4) ∧ num_Reader_Var.p4 K x0 x3 A2 m3 c4 ((m3 : Nat) : Int) 0 w
abbrev num_Reader_Var.p2 (K : Value → World → Prop) (x0 : Option Addr) (w : World) : Prop :=
  num_Reader_Var.p3 K x0 0 w
abbrev num_Reader_Var.p1 (K : Value → World → Prop) (x0 : Option Addr) (x14 : Bool) (w : World) : Prop :=
  condP x14 (K (.int .u64 0) w) (num_Reader_Var.p2 K x0 w)
abbrev num_Reader_Var.p0 (K : Value → World → Prop) (x0 : Option Addr) (w : World) : Prop :=
  condP x0.isNone (num_Reader_Var.p1 K x0 true w) (∃ (a17 : Addr), x0 = some a17 ∧ ∃ (n18 : Int), w.cell? (a17.add 1) = some (.int .i64 n18) ∧ num_Reader_Var.p1 K x0 (n18 != (0 : Int)) w)
abbrev num_Reader_Var.F (q0 : Option Addr) (K : Value → World → Prop) (w : World) : Prop :=
  num_Reader_Var.p0 K q0 w
theorem num_Reader_Var.ok {q0 : Option Addr} {K : Value → World → Prop} {w : World} (h : num_Reader_Var.F q0 K w) :
    CallsE Tryd.prog 69 #[.pointer q0] w K := by
  refine calls_of_J (n := 67) (rs := [.tmp 2]) Tryd.func69 rfl rfl rfl rfl ?_
  refine J_seq (fun σ w => vP (σ 0) fun x0 => num_Reader_Var.p0 K x0 w) ?_ ?_
  ·
    exact sh_sound _ _ _ _ (Eq.mp (by kernel_rfl) h)
  · intro σ w h
    obtain ⟨x0, e0, h⟩ := vP_elim h
    refine J.sub ?_ ((Sub.base _).upd e0)
    clear e0
    refine J_seq (fun σ w => vP (σ 0) fun x0 => num_Reader_Var.p2 K x0 w) ?_ ?_
    ·
      refine J_seq (fun σ w => vP (σ 0) fun x0 => vB (σ 14) fun x14 => num_Reader_Var.p1 K x0 x14 w) ?_ ?_
      ·
        exact sh_sound _ _ _ _ (Eq.mp (by kernel_rfl) h)
      · intro σ w h
        obtain ⟨x0, e0, h⟩ := vP_elim h
        obtain ⟨x14, e14, h⟩ := vB_elim h
        refine J.sub ?_ (((Sub.base _).upd e0).upd e14)
        clear e0 e14
        exact sh_sound _ _ _ _ (Eq.mp (by kernel_rfl) h)
    · intro σ w h
      obtain ⟨x0, e0, h⟩ := vP_elim h
      refine J.sub ?_ ((Sub.base _).upd e0)
      clear e0
      refine J_seq (fun σ w => vP (σ 0) fun x0 => vI .u64 (σ 3) fun x3 => num_Reader_Var.p3 K x0 x3 w) ?_ ?_
      ·
        exact sh_sound _ _ _ _ (Eq.mp (by kernel_rfl) h)
      · intro σ w h
        obtain ⟨x0, e0, h⟩ := vP_elim h
        obtain ⟨x3, e3, h⟩ := vI_elim h
        refine J.sub ?_ (((Sub.base _).upd e0).upd e3)
        clear e0 e3
        refine J_seq (fun σ w => vP (σ 0) fun x0 => num_Reader_Var.p11 K x0 w) ?_ ?_
        ·
          refine J_seq (fun σ w => vP (σ 0) fun x0 => vI .u64 (σ 3) fun x3 => vS (σ 18) fun x18A x18n x18c => vI .i64 (σ 19) fun x19 => vI .i64 (σ 20) fun x20 => num_Reader_Var.p4 K x0 x3 x18A x18n x18c x19 x20 w) ?_ ?_
          ·
            exact sh_sound _ _ _ _ (Eq.mp (by kernel_rfl) h)
          · intro σ w h
            obtain ⟨x0, e0, h⟩ := vP_elim h
            obtain ⟨x3, e3, h⟩ := vI_elim h
            obtain ⟨x18A, x18n, x18c, e18, h⟩ := vS_elim h
            obtain ⟨x19, e19, h⟩ := vI_elim h
            obtain ⟨x20, e20, h⟩ := vI_elim h
            refine J.sub ?_ ((((((Sub.base _).upd e0).upd e3).upd e18).upd e19).upd e20)
            clear e0 e3 e18 e19 e20
            refine J_block ?_
            refine J_loop (fun k σ w => vP (σ 0) fun x0 => vI .u64 (σ 3) fun x3 => vS (σ 18) fun x18A x18n x18c => vI .i64 (σ 19) fun x19 => vI .i64 (σ 20) fun x20 => num_Reader_Var.l0 K k x0 x3 x18A x18n x18c x19 x20 w) (Eq.mp (by kernel_rfl) h) ?_ ?_
            · intro σ w h
              obtain ⟨x0, e0, h⟩ := vP_elim h
              obtain ⟨x3, e3, h⟩ := vI_elim h
              obtain ⟨x18A, x18n, x18c, e18, h⟩ := vS_elim h
              obtain ⟨x19, e19, h⟩ := vI_elim h
              obtain ⟨x20, e20, h⟩ := vI_elim h
              exact h
            · intro k0 σ w h
              obtain ⟨x0, e0, h⟩ := vP_elim h
              obtain ⟨x3, e3, h⟩ := vI_elim h
              obtain ⟨x18A, x18n, x18c, e18, h⟩ := vS_elim h
              obtain ⟨x19, e19, h⟩ := vI_elim h
              obtain ⟨x20, e20, h⟩ := vI_elim h
              refine J.sub ?_ ((((((Sub.base _).upd e0).upd e3).upd e18).upd e19).upd e20)
              clear e0 e3 e18 e19 e20
              refine J_seq (fun σ w => vP (σ 0) fun x0 => vI .u64 (σ 3) fun x3 => vS (σ 18) fun x18A x18n x18c => vI .i64 (σ 19) fun x19 => vI .i64 (σ 20) fun x20 => vB (σ 21) fun x21 => num_Reader_Var.p5 (num_Reader_Var.l0 K k0) K x0 x3 x18A x18n x18c x19 x20 x21 w) ?_ ?_
              ·
                exact sh_sound _ _ _ _ (Eq.mp (by kernel_rfl) h)
              · intro σ w h
                obtain ⟨x0, e0, h⟩ := vP_elim h
                obtain ⟨x3, e3, h⟩ := vI_elim h
                obtain ⟨x18A, x18n, x18c, e18, h⟩ := vS_elim h
                obtain ⟨x19, e19, h⟩ := vI_elim h
                obtain ⟨x20, e20, h⟩ := vI_elim h
                obtain ⟨x21, e21, h⟩ := vB_elim h
                refine J.sub ?_ (((((((Sub.base _).upd e0).upd e3).upd e18).upd e19).upd e20).upd e21)
                clear e0 e3 e18 e19 e20 e21
                refine J_seq (fun σ w => vP (σ 0) fun x0 => vI .u64 (σ 3) fun x3 => vS (σ 18) fun x18A x18n x18c => vI .i64 (σ 19) fun x19 => vI .i64 (σ 20) fun x20 => num_Reader_Var.p6 (num_Reader_Var.l0 K k0) K x0 x3 x18A x18n x18c x19 x20 w) ?_ ?_
                ·
                  exact sh_sound _ _ _ _ (Eq.mp (by kernel_rfl) h)
                · intro σ w h
                  obtain ⟨x0, e0, h⟩ := vP_elim h
                  obtain ⟨x3, e3, h⟩ := vI_elim h
                  obtain ⟨x18A, x18n, x18c, e18, h⟩ := vS_elim h
                  obtain ⟨x19, e19, h⟩ := vI_elim h
                  obtain ⟨x20, e20, h⟩ := vI_elim h
                  refine J.sub ?_ ((((((Sub.base _).upd e0).upd e3).upd e18).upd e19).upd e20)
                  clear e0 e3 e18 e19 e20
                  refine J_seq (fun σ w => vP (σ 0) fun x0 => vI .u64 (σ 3) fun x3 => vS (σ 18) fun x18A x18n x18c => vI .i64 (σ 19) fun x19 => vI .i64 (σ 20) fun x20 => num_Reader_Var.p10 (num_Reader_Var.l0 K k0) K x0 x3 x18A x18n x18c x19 x20 w) ?_ ?_
                  ·
                    refine J_block ?_
                    refine J_seq (fun σ w => vP (σ 0) fun x0 => vI .u64 (σ 3) fun x3 => vI .i64 (σ 4) fun x4 => vI .u8 (σ 5) fun x5 => vS (σ 18) fun x18A x18n x18c => vI .i64 (σ 19) fun x19 => vI .i64 (σ 20) fun x20 => num_Reader_Var.p7 (num_Reader_Var.l0 K k0) K x0 x3 x4 x5 x18A x18n x18c x19 x20 w) ?_ ?_
                    ·
                      exact sh_sound _ _ _ _ (Eq.mp (by kernel_rfl) h)
                    · intro σ w h
                      obtain ⟨x0, e0, h⟩ := vP_elim h
                      obtain ⟨x3, e3, h⟩ := vI_elim h
                      obtain ⟨x4, e4, h⟩ := vI_elim h
                      obtain ⟨x5, e5, h⟩ := vI_elim h
                      obtain ⟨x18A, x18n, x18c, e18, h⟩ := vS_elim h
                      obtain ⟨x19, e19, h⟩ := vI_elim h
                      obtain ⟨x20, e20, h⟩ := vI_elim h
                      refine J.sub ?_ ((((((((Sub.base _).upd e0).upd e3).upd e4).upd e5).upd e18).upd e19).upd e20)
                      clear e0 e3 e4 e5 e18 e19 e20
                      refine J_seq (fun σ w => vP (σ 0) fun x0 => vI .u64 (σ 3) fun x3 => vI .i64 (σ 4) fun x4 => vI .u8 (σ 5) fun x5 => vS (σ 18) fun x18A x18n x18c => vI .i64 (σ 19) fun x19 => vI .i64 (σ 20) fun x20 => num_Reader_Var.p9 (num_Reader_Var.l0 K k0) K x0 x3 x4 x5 x18A x18n x18c x19 x20 w) ?_ ?_
                      ·
                        refine J_seq (fun σ w => vP (σ 0) fun x0 => vI .u64 (σ 3) fun x3 => vI .i64 (σ 4) fun x4 => vI .u8 (σ 5) fun x5 => vS (σ 18) fun x18A x18n x18c => vI .i64 (σ 19) fun x19 => vI .i64 (σ 20) fun x20 => vB (σ 38) fun x38 => num_Reader_Var.p8 (num_Reader_Var.l0 K k0) K x0 x3 x4 x5 x18A x18n x18c x19 x20 x38 w) ?_ ?_
                        ·
                          exact sh_sound _ _ _ _ (Eq.mp (by kernel_rfl) h)
                        · intro σ w h
                          obtain ⟨x0, e0, h⟩ := vP_elim h
                          obtain ⟨x3, e3, h⟩ := vI_elim h
                          obtain ⟨x4, e4, h⟩ := vI_elim h
                          obtain ⟨x5, e5, h⟩ := vI_elim h
                          obtain ⟨x18A, x18n, x18c, e18, h⟩ := vS_elim h
                          obtain ⟨x19, e19, h⟩ := vI_elim h
                          obtain ⟨x20, e20, h⟩ := vI_elim h
                          obtain ⟨x38, e38, h⟩ := vB_elim h
                          refine J.sub ?_ (((((((((Sub.base _).upd e0).upd e3).upd e4).upd e5).upd e18).upd e19).upd e20).upd e38)
                          clear e0 e3 e4 e5 e18 e19 e20 e38
                          exact sh_sound _ _ _ _ (Eq.mp (by kernel_rfl) h)
                      · intro σ w h
                        obtain ⟨x0, e0, h⟩ := vP_elim h
                        obtain ⟨x3, e3, h⟩ := vI_elim h
                        obtain ⟨x4, e4, h⟩ := vI_elim h
                        obtain ⟨x5, e5, h⟩ := vI_elim h
                        obtain ⟨x18A, x18n, x18c, e18, h⟩ := vS_elim h
                        obtain ⟨x19, e19, h⟩ := vI_elim h
                        obtain ⟨x20, e20, h⟩ := vI_elim h
                        refine J.sub ?_ ((((((((Sub.base _).upd e0).upd e3).upd e4).upd e5).upd e18).upd e19).upd e20)
                        clear e0 e3 e4 e5 e18 e19 e20
                        exact sh_sound _ _ _ _ (Eq.mp (by kernel_rfl) h)
                  · intro σ w h
                    obtain ⟨x0, e0, h⟩ := vP_elim h
                    obtain ⟨x3, e3, h⟩ := vI_elim h
                    obtain ⟨x18A, x18n, x18c, e18, h⟩ := vS_elim h
                    obtain ⟨x19, e19, h⟩ := vI_elim h
                    obtain ⟨x20, e20, h⟩ := vI_elim h
                    refine J.sub ?_ ((((((Sub.base _).upd e0).upd e3).upd e18).upd e19).upd e20)
                    clear e0 e3 e18 e19 e20
                    exact sh_sound _ _ _ _ (Eq.mp (by kernel_rfl) h)
        · intro σ w h
          obtain ⟨x0, e0, h⟩ := vP_elim h
          refine J.sub ?_ ((Sub.base _).upd e0)
          clear e0
          exact sh_sound _ _ _ _ (Eq.mp (by kernel_rfl) h)

/-! ### (*hayloft/hayloftref01.Reader).Var: function 70 -/
abbrev ref01_Reader_Var.p9 (L0 : Option Addr → Int → Int → Int → World → Prop) (K : Value → World → Prop) (x0 : Option Addr) (x3 : Int) (x4 : Int) (x5 : Int) (w : World) : Prop :=
  L0 x0 x3 x4 (IntKind.wrap .i64 (x5 + (1 : Int))) w
abbrev ref01_Reader_Var.p8 (L0 : Option Addr → Int → Int → Int → World → Prop) (K : Value → World → Prop) (x0 : Option Addr) (x3 : Int) (x4 : Int) (x5 : Int) (x6 : Int) (w : World) : Prop :=
  (128 : Int) ≠ 0 ∧ condP (decide (x6 < (128 : Int))) (∃ (a17 : Addr), x0 = some a17 ∧ ∃ (A18 : Option Addr) (m19 : Nat) (c20 : Nat), w.cell? a17 = some (.slice A18 m19 c20) ∧ (0 ≤ (IntKind.wrap .i64 (x5 + (1 : Int))) ∧ (IntKind.wrap .i64 (x5 + (1 : Int))) ≤ ((m19 : Nat) : Int)) ∧ ∃ (a21 : Addr), x0 = some a21 ∧ canStore w a21 ∧ wlet (w.setCell a21 (.slice (slA A18 ((IntKind.wrap .i64 (x5 + (1 : Int))).toNat) c20 1) (m19 - ((IntKind.wrap .i64 (x5 + (1 : Int))).toNat)) (c20 - ((IntKind.wrap .i64 (x5 + (1 : Int))).toNat)))) fun w22 => K (.int .u64 (IntKind.wrap .u64 (x3 + (IntKind.wrap .u64 ((IntKind.wrap .u64 (Int.tmod x6 128)) * x4))))) w22) (ref01_Reader_Var.p9 L0 K x0 (IntKind.wrap .u64 (x3 + (IntKind.wrap .u64 ((IntKind.wrap .u64 (Int.tmod x6 128)) * x4)))) (IntKind.wrap .u64 (x4 * (128 : Int))) x5 w)
abbrev ref01_Reader_Var.p7 (L0 : Option Addr → Int → Int → Int → World → Prop) (K : Value → World → Prop) (x0 : Option Addr) (x3 : Int) (x4 : Int) (x5 : Int) (x6 : Int) (x44 : Bool) (w : World) : Prop :=
  condP x44 (∃ (a15 : Addr), x0 = some a15 ∧ canStore w (a15.add 1) ∧ wlet (w.setCell (a15.add 1) (.int .i64 4)) fun w16 => K (.int .u64 0) w16) (ref01_Reader_Var.p8 L0 K x0 x3 x4 x5 x6 w)
abbrev ref01_Reader_Var.p6 (L0 : Option Addr → Int → Int → Int → World → Prop) (K : Value → World → Prop) (x0 : Option Addr) (x3 : Int) (x4 : Int) (x5 : Int) (x6 : Int) (w : World) : Prop :=
  condP (x5 == (9 : Int)) (condP (decide ((1 : Int) < x6)) (ref01_Reader_Var.p7 L0 K x0 x3 x4 x5 x6 true w) (condP (decide ((0 : Int) < x5)) (ref01_Reader_Var.p7 L0 K x0 x3 x4 x5 x6 (x6 == (0 : Int)) w) (ref01_Reader_Var.p7 L0 K x0 x3 x4 x5 x6 false w))) (condP (decide ((0 : Int) < x5)) (ref01_Reader_Var.p7 L0 K x0 x3 x4 x5 x6 (x6 == (0 : Int)) w) (ref01_Reader_Var.p7 L0 K x0 x3 x4 x5 x6 false w))
abbrev ref01_Reader_Var.p5 (L0 : Option Addr → Int → Int → Int → World → Prop) (K : Value → World → Prop) (x0 : Option Addr) (x3 : Int) (x4 : Int) (x5 : Int) (w : World) : Prop :=
  ∃ (a9 : Addr), x0 = some a9 ∧ ∃ (A10 : Option Addr) (m11 : Nat) (c12 : Nat), w.cell? a9 = some (.slice A10 m11 c12) ∧ (0 ≤ x5 ∧ x5 < ((m11 : Nat) : Int)) ∧ ∃ (a13 : Addr), A10 = some a13 ∧ ∃ (n14 : Int), w.cell? (a13.add x5.toNat) = some (.int .u8 n14) ∧ ref01_Reader_Var.p6 L0 K x0 x3 x4 x5 n14 w
abbrev ref01_Reader_Var.b0 (L0 : Option Addr → Int → Int → Int → World → Prop) (K : Value → World → Prop) (x0 : Option Addr) (x3 : Int) (x4 : Int) (x5 : Int) (w : World) : Prop :=
  ∃ (a3 : Addr), x0 = some a3 ∧ ∃ (A4 : Option Addr) (m5 : Nat) (c6 : Nat), w.cell? a3 = some (.slice A4 m5 c6) ∧ condP (decide (((m5 : Nat) : Int) ≤ x5)) (∃ (a7 : Addr), x0 = some a7 ∧ canStore w (a7.add 1) ∧ wlet (w.setCell (a7.add 1) (.int .i64 3)) fun w8 => K (.int .u64 0) w8) (ref01_Reader_Var.p5 L0 K x0 x3 x4 x5 w)
def ref01_Reader_Var.l0 (K : Value → World → Prop) (k : Nat) : Option Addr → Int → Int → Int → World → Prop :=
  Nat.rec (motive := fun _ => Option Addr → Int → Int → Int → World → Prop) (fun _ _ _ _ _ => False) (fun _ ih => ref01_Reader_Var.b0 ih K) k
theorem ref01_Reader_Var.l0_succ (K : Value → World → Prop) (k : Nat) (x0 : Option Addr) (x3 : Int) (x4 : Int) (x5 : Int) (w : World) : ref01_Reader_Var.l0 K (k + 1) x0 x3 x4 x5 w = ref01_Reader_Var.b0 (ref01_Reader_Var.l0 K k) K x0 x3 x4 x5 w := rfl
abbrev ref01_Reader_Var.p4 (K : Value → World → Prop) (x0 : Option Addr) (x3 : Int) (x4 : Int) (x5 : Int) (w : World) : Prop :=
  ∃ k, ref01_Reader_Var.l0 K k x0 x3 x4 x5 w
abbrev ref01_Reader_Var.p3 (K : Value → World → Prop) (x0 : Option Addr) (x3 : Int) (x4 : Int) (w : World) : Prop :=
  ref01_Reader_Var.p4 K x0 x3 x4 0 w
abbrev ref01_Reader_Var.p2 (K : Value → World → Prop) (x0 : Option Addr) (x3 : Int) (w : World) : Prop :=
  ref01_Reader_Var.p3 K x0 x3 1 w
abbrev ref01_Reader_Var.p1 (K : Value → World → Prop) (x0 : Option Addr) (w : World) : Prop :=
  ref01_Reader_Var.p2 K x0 0 w
abbrev ref01_Reader_Var.p0 (K : Value → World → Prop) (x0 : Option Addr) (w : World) : Prop :=
  ∃ (a1 : Addr), x0 = some a1 ∧ ∃ (n2 : Int), w.cell? (a1.add 1) = some (.int .i64 n2) ∧ condP (n2 != (0 : Int)) (K (.int .u64 0) w) (ref01_Reader_Var.p1 K x0 w)
abbrev ref01_Reader_Var.F (q0 : Option Addr) (K : Value → World → Prop) (w : World) : Prop :=
  ref01_Reader_Var.p0 K q0 w
theorem ref01_Reader_Var.ok {q0 : Option Addr} {K : Value → World → Prop} {w : World} (h : ref01_Reader_Var.F q0 K w) :
    CallsE Tryd.prog 70 #[.pointer q0] w K := by
  refine calls_of_J (n := 70) (rs := [.tmp 2]) Tryd.func70 rfl rfl rfl rfl ?_
  refine J_seq (fun σ w => vP (σ 0) fun x0 => ref01_Reader_Var.p0 K x0 w) ?_ ?_
  ·
    exact sh_sound _ _ _ _ (Eq.mp (by kernel_rfl) h)
  · intro σ w h
    obtain ⟨x0, e0, h⟩ := vP_elim h
    refine J.sub ?_ ((Sub.base _).upd e0)
    clear e0
    refine J_seq (fun σ w => vP (σ 0) fun x0 => ref01_Reader_Var.p1 K x0 w) ?_ ?_
    ·
      exact sh_sound _ _ _ _ (Eq.mp (by kernel_rfl) h)
    · intro σ w h
      obtain ⟨x0, e0, h⟩ := vP_elim h
      refine J.sub ?_ ((Sub.base _).upd e0)
      clear e0
      refine J_seq (fun σ w => vP (σ 0) fun x0 => vI .u64 (σ 3) fun x3 => ref01_Reader_Var.p2 K x0 x3 w) ?_ ?_
      ·
        exact sh_sound _ _ _ _ (Eq.mp (by kernel_rfl) h)
      · intro σ w h
        obtain ⟨x0, e0, h⟩ := vP_elim h
        obtain ⟨x3, e3, h⟩ := vI_elim h
        refine J.sub ?_ (((Sub.base _).upd e0).upd e3)
        clear e0 e3
        refine J_seq (fun σ w => vP (σ 0) fun x0 => vI .u64 (σ 3) fun x3 => vI .u64 (σ 4) fun x4 => ref01_Reader_Var.p3 K x0 x3 x4 w) ?_ ?_
        ·
          exact sh_sound _ _ _ _ (Eq.mp (by kernel_rfl) h)
        · intro σ w h
          obtain ⟨x0, e0, h⟩ := vP_elim h
          obtain ⟨x3, e3, h⟩ := vI_elim h
          obtain ⟨x4, e4, h⟩ := vI_elim h
          refine J.sub ?_ ((((Sub.base _).upd e0).upd e3).upd e4)
          clear e0 e3 e4
          refine J_seq (fun σ w => vP (σ 0) fun x0 => vI .u64 (σ 3) fun x3 => vI .u64 (σ 4) fun x4 => vI .i64 (σ 5) fun x5 => ref01_Reader_Var.p4 K x0 x3 x4 x5 w) ?_ ?_
          ·
            exact sh_sound _ _ _ _ (Eq.mp (by kernel_rfl) h)
          · intro σ w h
            obtain ⟨x0, e0, h⟩ := vP_elim h
            obtain ⟨x3, e3, h⟩ := vI_elim h
            obtain ⟨x4, e4, h⟩ := vI_elim h
            obtain ⟨x5, e5, h⟩ := vI_elim h
            refine J.sub ?_ (((((Sub.base _).upd e0).upd e3).upd e4).upd e5)
            clear e0 e3 e4 e5
            refine J_block ?_
            refine J_loop (fun k σ w => vP (σ 0) fun x0 => vI .u64 (σ 3) fun x3 => vI .u64 (σ 4) fun x4 => vI .i64 (σ 5) fun x5 => ref01_Reader_Var.l0 K k x0 x3 x4 x5 w) (Eq.mp (by kernel_rfl) h) ?_ ?_
            · intro σ w h
              obtain ⟨x0, e0, h⟩ := vP_elim h
              obtain ⟨x3, e3, h⟩ := vI_elim h
              obtain ⟨x4, e4, h⟩ := vI_elim h
              obtain ⟨x5, e5, h⟩ := vI_elim h
              exact h
            · intro k0 σ w h
              obtain ⟨x0, e0, h⟩ := vP_elim h
              obtain ⟨x3, e3, h⟩ := vI_elim h
              obtain ⟨x4, e4, h⟩ := vI_elim h
              obtain ⟨x5, e5, h⟩ := vI_elim h
              refine J.sub ?_ (((((Sub.base _).upd e0).upd e3).upd e4).upd e5)
              clear e0 e3 e4 e5
              refine J_seq (fun σ w => vP (σ 0) fun x0 => vI .u64 (σ 3) fun x3 => vI .u64 (σ 4) fun x4 => vI .i64 (σ 5) fun x5 => ref01_Reader_Var.p9 (ref01_Reader_Var.l0 K k0) K x0 x3 x4 x5 w) ?_ ?_
              ·
                refine J_block ?_
                refine J_seq (fun σ w => vP (σ 0) fun x0 => vI .u64 (σ 3) fun x3 => vI .u64 (σ 4) fun x4 => vI .i64 (σ 5) fun x5 => ref01_Reader_Var.p5 (ref01_Reader_Var.l0 K k0) K x0 x3 x4 x5 w) ?_ ?_
                ·
                  exact sh_sound _ _ _ _ (Eq.mp (by kernel_rfl) h)
                · intro σ w h
                  obtain ⟨x0, e0, h⟩ := vP_elim h
                  obtain ⟨x3, e3, h⟩ := vI_elim h
                  obtain ⟨x4, e4, h⟩ := vI_elim h
                  obtain ⟨x5, e5, h⟩ := vI_elim h
                  refine J.sub ?_ (((((Sub.base _).upd e0).upd e3).upd e4).upd e5)
                  clear e0 e3 e4 e5
                  refine J_seq (fun σ w => vP (σ 0) fun x0 => vI .u64 (σ 3) fun x3 => vI .u64 (σ 4) fun x4 => vI .i64 (σ 5) fun x5 => vI .u8 (σ 6) fun x6 => ref01_Reader_Var.p6 (ref01_Reader_Var.l0 K k0) K x0 x3 x4 x5 x6 w) ?_ ?_
                  ·
                    exact sh_sound _ _ _ _ (Eq.mp (by kernel_rfl) h)
                  · intro σ w h
                    obtain ⟨x0, e0, h⟩ := vP_elim h
                    obtain ⟨x3, e3, h⟩ := vI_elim h
                    obtain ⟨x4, e4, h⟩ := vI_elim h
                    obtain ⟨x5, e5, h⟩ := vI_elim h
                    obtain ⟨x6, e6, h⟩ := vI_elim h
                    refine J.sub ?_ ((((((Sub.base _).upd e0).upd e3).upd e4).upd e5).upd e6)
                    clear e0 e3 e4 e5 e6
                    refine J_seq (fun σ w => vP (σ 0) fun x0 => vI .u64 (σ 3) fun x3 => vI .u64 (σ 4) fun x4 => vI .i64 (σ 5) fun x5 => vI .u8 (σ 6) fun x6 => ref01_Reader_Var.p8 (ref01_Reader_Var.l0 K k0) K x0 x3 x4 x5 x6 w) ?_ ?_
                    ·
                      refine J_seq (fun σ w => vP (σ 0) fun x0 => vI .u64 (σ 3) fun x3 => vI .u64 (σ 4) fun x4 => vI .i64 (σ 5) fun x5 => vI .u8 (σ 6) fun x6 => vB (σ 44) fun x44 => ref01_Reader_Var.p7 (ref01_Reader_Var.l0 K k0) K x0 x3 x4 x5 x6 x44 w) ?_ ?_
                      ·
                        exact sh_sound _ _ _ _ (Eq.mp (by kernel_rfl) h)
                      · intro σ w h
                        obtain ⟨x0, e0, h⟩ := vP_elim h
                        obtain ⟨x3, e3, h⟩ := vI_elim h
                        obtain ⟨x4, e4, h⟩ := vI_elim h
                        obtain ⟨x5, e5, h⟩ := vI_elim h
                        obtain ⟨x6, e6, h⟩ := vI_elim h
                        obtain ⟨x44, e44, h⟩ := vB_elim h
                        refine J.sub ?_ (((((((Sub.base _).upd e0).upd e3).upd e4).upd e5).upd e6).upd e44)
                        clear e0 e3 e4 e5 e6 e44
                        exact sh_sound _ _ _ _ (Eq.mp (by kernel_rfl) h)
                    · intro σ w h
                      obtain ⟨x0, e0, h⟩ := vP_elim h
                      obtain ⟨x3, e3, h⟩ := vI_elim h
                      obtain ⟨x4, e4, h⟩ := vI_elim h
                      obtain ⟨x5, e5, h⟩ := vI_elim h
                      obtain ⟨x6, e6, h⟩ := vI_elim h
                      refine J.sub ?_ ((((((Sub.base _).upd e0).upd e3).upd e4).upd e5).upd e6)
                      clear e0 e3 e4 e5 e6
                      exact sh_sound _ _ _ _ (Eq.mp (by kernel_rfl) h)
              · intro σ w h
                obtain ⟨x0, e0, h⟩ := vP_elim h
                obtain ⟨x3, e3, h⟩ := vI_elim h
                obtain ⟨x4, e4, h⟩ := vI_elim h
                obtain ⟨x5, e5, h⟩ := vI_elim h
                refine J.sub ?_ (((((Sub.base _).upd e0).upd e3).upd e4).upd e5)
                clear e0 e3 e4 e5
                exact sh_sound _ _ _ _ (Eq.mp (by kernel_rfl) h)

/-! ### hayloft/hayloftref06.Of: function 71 -/
abbrev ref06_Of.p4 (K : Value → World → Prop) (w : World) : Prop :=
  K (.int .i64 7) w
abbrev ref06_Of.b0 (L0 : Int → Int → World → Prop) (K : Value → World → Prop) (x0 : Int) (x3 : Int) (w : World) : Prop :=
  condP (decide (x3 < (7 : Int))) (CallsE Tryd.prog 62 #[.int .i64 x3] w (fun v1 w2 => ∃ (n3 : Int), v1 = .int .i64 n3 ∧ condP (decide (x0 ≤ n3)) (K (.int .i64 x3) w2) (L0 x0 (IntKind.wrap .i64 (x3 + (1 : Int))) w2))) (ref06_Of.p4 K w)
def ref06_Of.l0 (K : Value → World → Prop) (k : Nat) : Int → Int → World → Prop :=
  Nat.rec (motive := fun _ => Int → Int → World → Prop) (fun _ _ _ => False) (fun _ ih => ref06_Of.b0 ih K) k
theorem ref06_Of.l0_succ (K : Value → World → Prop) (k : Nat) (x0 : Int) (x3 : Int) (w : World) : ref06_Of.l0 K (k + 1) x0 x3 w = ref06_Of.b0 (ref06_Of.l0 K k) K x0 x3 w := rfl
abbrev ref06_Of.p3 (K : Value → World → Prop) (x0 : Int) (x3 : Int) (w : World) : Prop :=
  ∃ k, ref06_Of.l0 K k x0 x3 w
abbrev ref06_Of.p2 (K : Value → World → Prop) (x0 : Int) (w : World) : Prop :=
  ref06_Of.p3 K x0 0 w
abbrev ref06_Of.p1 (K : Value → World → Prop) (x0 : Int) (x9 : Bool) (w : World) : Prop :=
  condP x9 (K (.int .i64 (-1)) w) (ref06_Of.p2 K x0 w)
abbrev ref06_Of.p0 (K : Value → World → Prop) (x0 : Int) (w : World) : Prop :=
  condP (decide (x0 < (1 : Int))) (ref06_Of.p1 K x0 true w) (ref06_Of.p1 K x0 (decide ((4096 : Int) < x0)) w)
abbrev ref06_Of.F (q0 : Int) (K : Value → World → Prop) (w : World) : Prop :=
  ref06_Of.p0 K q0 w
theorem ref06_Of.ok {q0 : Int} {K : Value → World → Prop} {w : World} (h : ref06_Of.F q0 K w) :
    CallsE Tryd.prog 71 #[.int .i64 q0] w K := by
  refine calls_of_J (n := 19) (rs := [.tmp 2]) Tryd.func71 rfl rfl rfl rfl ?_
  refine J_seq (fun σ w => vI .i64 (σ 0) fun x0 => ref06_Of.p0 K x0 w) ?_ ?_
  ·
    exact sh_sound _ _ _ _ (Eq.mp (by kernel_rfl) h)
  · intro σ w h
    obtain ⟨x0, e0, h⟩ := vI_elim h
    refine J.sub ?_ ((Sub.base _).upd e0)
    clear e0
    refine J_seq (fun σ w => vI .i64 (σ 0) fun x0 => ref06_Of.p2 K x0 w) ?_ ?_
    ·
      refine J_seq (fun σ w => vI .i64 (σ 0) fun x0 => vB (σ 9) fun x9 => ref06_Of.p1 K x0 x9 w) ?_ ?_
      ·
        exact sh_sound _ _ _ _ (Eq.mp (by kernel_rfl) h)
      · intro σ w h
        obtain ⟨x0, e0, h⟩ := vI_elim h
        obtain ⟨x9, e9, h⟩ := vB_elim h
        refine J.sub ?_ (((Sub.base _).upd e0).upd e9)
        clear e0 e9
        exact sh_sound _ _ _ _ (Eq.mp (by kernel_rfl) h)
    · intro σ w h
      obtain ⟨x0, e0, h⟩ := vI_elim h
      refine J.sub ?_ ((Sub.base _).upd e0)
      clear e0
      refine J_seq (fun σ w => ref06_Of.p4 K w) ?_ ?_
      ·
        refine J_seq (fun σ w => vI .i64 (σ 0) fun x0 => vI .i64 (σ 3) fun x3 => ref06_Of.p3 K x0 x3 w) ?_ ?_
        ·
          exact sh_sound _ _ _ _ (Eq.mp (by kernel_rfl) h)
        · intro σ w h
          obtain ⟨x0, e0, h⟩ := vI_elim h
          obtain ⟨x3, e3, h⟩ := vI_elim h
          refine J.sub ?_ (((Sub.base _).upd e0).upd e3)
          clear e0 e3
          refine J_block ?_
          refine J_loop (fun k σ w => vI .i64 (σ 0) fun x0 => vI .i64 (σ 3) fun x3 => ref06_Of.l0 K k x0 x3 w) (Eq.mp (by kernel_rfl) h) ?_ ?_
          · intro σ w h
            obtain ⟨x0, e0, h⟩ := vI_elim h
            obtain ⟨x3, e3, h⟩ := vI_elim h
            exact h
          · intro k0 σ w h
            obtain ⟨x0, e0, h⟩ := vI_elim h
            obtain ⟨x3, e3, h⟩ := vI_elim h
            refine J.sub ?_ (((Sub.base _).upd e0).upd e3)
            clear e0 e3
            exact sh_sound _ _ _ _ (Eq.mp (by kernel_rfl) h)
      · intro σ w h
        refine J.sub ?_ (Sub.base _)
        exact sh_sound _ _ _ _ (Eq.mp (by kernel_rfl) h)

/-! ### hayloft/hayloftref10.Pages: function 72 -/
abbrev ref10_Pages.F (q0 : Int) (q1 : Int) (K : Value → World → Prop) (w : World) : Prop :=
  condP (q0 == (7 : Int)) (CallsE Tryd.prog 78 #[.int .i64 q1] w (fun v1 w2 => ∃ (n3 : Int), v1 = .int .i64 n3 ∧ K (.int .i64 n3) w2)) (K (.int .i64 1) w)
theorem ref10_Pages.ok {q0 : Int} {q1 : Int} {K : Value → World → Prop} {w : World} (h : ref10_Pages.F q0 q1 K w) :
    CallsE Tryd.prog 72 #[.int .i64 q0, .int .i64 q1] w K := by
  refine calls_of_J (n := 9) (rs := [.tmp 4]) Tryd.func72 rfl rfl rfl rfl ?_
  exact sh_sound _ _ _ _ (Eq.mp (by kernel_rfl) h)

/-! ### (*hayloft/hayloftref01.Reader).Fail: function 73 -/
abbrev ref01_Reader_Fail.F (q0 : Option Addr) (q1 : Int) (K : Value → World → Prop) (w : World) : Prop :=
  ∃ (a1 : Addr), q0 = some a1 ∧ ∃ (n2 : Int), w.cell? (a1.add 1) = some (.int .i64 n2) ∧ condP (n2 == (0 : Int)) (∃ (a3 : Addr), q0 = some a3 ∧ canStore w (a3.add 1) ∧ wlet (w.setCell (a3.add 1) (.int .i64 q1)) fun w4 => K (.tuple #[]) w4) (K (.tuple #[]) w)
theorem ref01_Reader_Fail.ok {q0 : Option Addr} {q1 : Int} {K : Value → World → Prop} {w : World} (h : ref01_Reader_Fail.F q0 q1 K w) :
    CallsE Tryd.prog 73 #[.pointer q0, .int .i64 q1] w K := by
  refine calls_of_J (n := 13) (rs := []) Tryd.func73 rfl rfl rfl rfl ?_
  exact sh_sound _ _ _ _ (Eq.mp (by kernel_rfl) h)

/-! ### hayloft/class.Of: function 74 -/
abbrev class_Of.p10 (K : Value → World → Prop) (x3 : Int) (w : World) : Prop :=
  K (.int .i64 x3) w
abbrev class_Of.p9 (K : Value → World → Prop) (x3 : Int) (w : World) : Prop :=
  class_Of.p10 K (IntKind.wrap .i64 (x3 - (1 : Int))) w
abbrev class_Of.p8 (K : Value → World → Prop) (x3 : Int) (w : World) : Prop :=
  class_Of.p9 K (IntKind.wrap .i64 (x3 - (1 : Int))) w
abbrev class_Of.p7 (K : Value → World → Prop) (x3 : Int) (w : World) : Prop :=
  class_Of.p8 K (IntKind.wrap .i64 (x3 - (1 : Int))) w
abbrev class_Of.p6 (K : Value → World → Prop) (x3 : Int) (w : World) : Prop :=
  class_Of.p7 K (IntKind.wrap .i64 (x3 - (1 : Int))) w
abbrev class_Of.p5 (K : Value → World → Prop) (x3 : Int) (w : World) : Prop :=
  class_Of.p6 K (IntKind.wrap .i64 (x3 - (1 : Int))) w
abbrev class_Of.p4 (K : Value → World → Prop) (x3 : Int) (w : World) : Prop :=
  class_Of.p5 K (IntKind.wrap .i64 (x3 - (1 : Int))) w
abbrev class_Of.p3 (K : Value → World → Prop) (x0 : Int) (x3 : Int) (w : World) : Prop :=
  condP (decide (x0 ≤ (16 : Int))) (class_Of.p4 K (IntKind.wrap .i64 (x3 - (1 : Int))) w) (condP (decide (x0 ≤ (24 : Int))) (class_Of.p4 K x3 w) (condP (decide (x0 ≤ (32 : Int))) (class_Of.p5 K x3 w) (condP (decide (x0 ≤ (48 : Int))) (class_Of.p6 K x3 w) (condP (decide (x0 ≤ (64 : Int))) (class_Of.p7 K x3 w) (condP (decide (x0 ≤ (96 : Int))) (class_Of.p8 K x3 w) (condP (decide (x0 ≤ (128 : Int))) (class_Of.p9 K x3 w) (class_Of.p10 K x3 w)))))))
abbrev class_Of.p2 (K : Value → World → Prop) (x0 : Int) (w : World) : Prop :=
  class_Of.p3 K x0 7 w
abbrev class_Of.p1 (K : Value → World → Prop) (x0 : Int) (x9 : Bool) (w : World) : Prop :=
  condP x9 (K (.int .i64 (-1)) w) (class_Of.p2 K x0 w)
abbrev class_Of.p0 (K : Value → World → Prop) (x0 : Int) (w : World) : Prop :=
  condP (decide (x0 < (1 : Int))) (class_Of.p1 K x0 true w) (class_Of.p1 K x0 (decide ((4096 : Int) < x0)) w)
abbrev class_Of.F (q0 : Int) (K : Value → World → Prop) (w : World) : Prop :=
  class_Of.p0 K q0 w
theorem class_Of.ok {q0 : Int} {K : Value → World → Prop} {w : World} (h : class_Of.F q0 K w) :
    CallsE Tryd.prog 74 #[.int .i64 q0] w K := by
  refine calls_of_J (n := 46) (rs := [.tmp 2]) Tryd.func74 rfl rfl rfl rfl ?_
  refine J_seq (fun σ w => vI .i64 (σ 0) fun x0 => class_Of.p0 K x0 w) ?_ ?_
  ·
    exact sh_sound _ _ _ _ (Eq.mp (by kernel_rfl) h)
  · intro σ w h
    obtain ⟨x0, e0, h⟩ := vI_elim h
    refine J.sub ?_ ((Sub.base _).upd e0)
    clear e0
    refine J_seq (fun σ w => vI .i64 (σ 0) fun x0 => class_Of.p2 K x0 w) ?_ ?_
    ·
      refine J_seq (fun σ w => vI .i64 (σ 0) fun x0 => vB (σ 9) fun x9 => class_Of.p1 K x0 x9 w) ?_ ?_
      ·
        exact sh_sound _ _ _ _ (Eq.mp (by kernel_rfl) h)
      · intro σ w h
        obtain ⟨x0, e0, h⟩ := vI_elim h
        obtain ⟨x9, e9, h⟩ := vB_elim h
        refine J.sub ?_ (((Sub.base _).upd e0).upd e9)
        clear e0 e9
        exact sh_sound _ _ _ _ (Eq.mp (by kernel_rfl) h)
    · intro σ w h
      obtain ⟨x0, e0, h⟩ := vI_elim h
      refine J.sub ?_ ((Sub.base _).upd e0)
      clear e0
      refine J_seq (fun σ w => vI .i64 (σ 0) fun x0 => vI .i64 (σ 3) fun x3 => class_Of.p3 K x0 x3 w) ?_ ?_
      ·
        exact sh_sound _ _ _ _ (Eq.mp (by kernel_rfl) h)
      · intro σ w h
        obtain ⟨x0, e0, h⟩ := vI_elim h
        obtain ⟨x3, e3, h⟩ := vI_elim h
        refine J.sub ?_ (((Sub.base _).upd e0).upd e3)
        clear e0 e3
        refine J_seq (fun σ w => vI .i64 (σ 3) fun x3 => class_Of.p10 K x3 w) ?_ ?_
        ·
          refine J_block ?_
          refine J_seq (fun σ w => vI .i64 (σ 3) fun x3 => class_Of.p9 K x3 w) ?_ ?_
          ·
            refine J_block ?_
            refine J_seq (fun σ w => vI .i64 (σ 3) fun x3 => class_Of.p8 K x3 w) ?_ ?_
            ·
              refine J_block ?_
              refine J_seq (fun σ w => vI .i64 (σ 3) fun x3 => class_Of.p7 K x3 w) ?_ ?_
              ·
                refine J_block ?_
                refine J_seq (fun σ w => vI .i64 (σ 3) fun x3 => class_Of.p6 K x3 w) ?_ ?_
                ·
                  refine J_block ?_
                  refine J_seq (fun σ w => vI .i64 (σ 3) fun x3 => class_Of.p5 K x3 w) ?_ ?_
                  ·
                    refine J_block ?_
                    refine J_seq (fun σ w => vI .i64 (σ 3) fun x3 => class_Of.p4 K x3 w) ?_ ?_
                    ·
                      exact sh_sound _ _ _ _ (Eq.mp (by kernel_rfl) h)
                    · intro σ w h
                      obtain ⟨x3, e3, h⟩ := vI_elim h
                      refine J.sub ?_ ((Sub.base _).upd e3)
                      clear e3
                      exact sh_sound _ _ _ _ (Eq.mp (by kernel_rfl) h)
                  · intro σ w h
                    obtain ⟨x3, e3, h⟩ := vI_elim h
                    refine J.sub ?_ ((Sub.base _).upd e3)
                    clear e3
                    exact sh_sound _ _ _ _ (Eq.mp (by kernel_rfl) h)
                · intro σ w h
                  obtain ⟨x3, e3, h⟩ := vI_elim h
                  refine J.sub ?_ ((Sub.base _).upd e3)
                  clear e3
                  exact sh_sound _ _ _ _ (Eq.mp (by kernel_rfl) h)
              · intro σ w h
                obtain ⟨x3, e3, h⟩ := vI_elim h
                refine J.sub ?_ ((Sub.base _).upd e3)
                clear e3
                exact sh_sound _ _ _ _ (Eq.mp (by kernel_rfl) h)
            · intro σ w h
              obtain ⟨x3, e3, h⟩ := vI_elim h
              refine J.sub ?_ ((Sub.base _).upd e3)
              clear e3
              exact sh_sound _ _ _ _ (Eq.mp (by kernel_rfl) h)
          · intro σ w h
            obtain ⟨x3, e3, h⟩ := vI_elim h
            refine J.sub ?_ ((Sub.base _).upd e3)
            clear e3
            exact sh_sound _ _ _ _ (Eq.mp (by kernel_rfl) h)
        · intro σ w h
          obtain ⟨x3, e3, h⟩ := vI_elim h
          refine J.sub ?_ ((Sub.base _).upd e3)
          clear e3
          exact sh_sound _ _ _ _ (Eq.mp (by kernel_rfl) h)

/-! ### hayloft/class.Pages: function 75 -/
abbrev class_Pages.F (q0 : Int) (K : Value → World → Prop) (w : World) : Prop :=
  CallsE Tryd.prog 74 #[.int .i64 q0] w (fun v1 w2 => ∃ (n3 : Int), v1 = .int .i64 n3 ∧ condP (decide (n3 < (0 : Int))) (K (.int .i64 0) w2) (condP (decide (n3 < (7 : Int))) (K (.int .i64 1) w2) ((256 : Int) ≠ 0 ∧ K (.int .i64 (IntKind.wrap .i64 (Int.tdiv (IntKind.wrap .i64 ((IntKind.wrap .i64 (q0 + (256 : Int))) - (1 : Int))) 256))) w2)))
theorem class_Pages.ok {q0 : Int} {K : Value → World → Prop} {w : World} (h : class_Pages.F q0 K w) :
    CallsE Tryd.prog 75 #[.int .i64 q0] w K := by
  refine calls_of_J (n := 16) (rs := [.tmp 2]) Tryd.func75 rfl rfl rfl rfl ?_
  exact sh_sound _ _ _ _ (Eq.mp (by kernel_rfl) h)

/-! ### (*hayloft/set.Set).Count: function 76 -/
abbrev set_Set_Count.p4 (K : Value → World → Prop) (x3 : Int) (w : World) : Prop :=
  K (.int .i64 x3) w
abbrev set_Set_Count.b0 (L0 : Int → Option Addr → Nat → Nat → Int → Int → World → Prop) (K : Value → World → Prop) (x3 : Int) (x11A : Option Addr) (x11n : Nat) (x11c : Nat) (x12 : Int) (x13 : Int) (w : World) : Prop :=
  condP (decide (x13 < x12)) ((0 ≤ x13 ∧ x13 < ((x11n : Nat) : Int)) ∧ ∃ (a5 : Addr), x11A = some a5 ∧ ∃ (n6 : Int), w.cell? (a5.add x13.toNat) = some (.int .u64 n6) ∧ CallsE Tryd.prog 79 #[.int .u64 n6] w (fun v7 w8 => ∃ (n9 : Int), v7 = .int .i64 n9 ∧ L0 (IntKind.wrap .i64 (x3 + n9)) x11A x11n x11c x12 (IntKind.wrap .i64 (x13 + (1 : Int))) w8)) (set_Set_Count.p4 K x3 w)
def set_Set_Count.l0 (K : Value → World → Prop) (k : Nat) : Int → Option Addr → Nat → Nat → Int → Int → World → Prop :=
  Nat.rec (motive := fun _ => Int → Option Addr → Nat → Nat → Int → Int → World → Prop) (fun _ _ _ _ _ _ _ => False) (fun _ ih => set_Set_Count.b0 ih K) k
theorem set_Set_Count.l0_succ (K : Value → World → Prop) (k : Nat) (x3 : Int) (x11A : Option Addr) (x11n : Nat) (x11c : Nat) (x12 : Int) (x13 : Int) (w : World) : set_Set_Count.l0 K (k + 1) x3 x11A x11n x11c x12 x13 w = set_Set_Count.b0 (set_Set_Count.l0 K k) K x3 x11A x11n x11c x12 x13 w := rfl
abbrev set_Set_Count.p3 (K : Value → World → Prop) (x3 : Int) (x11A : Option Addr) (x11n : Nat) (x11c : Nat) (x12 : Int) (x13 : Int) (w : World) : Prop :=
  ∃ k, set_Set_Count.l0 K k x3 x11A x11n x11c x12 x13 w
abbrev set_Set_Count.p2 (K : Value → World → Prop) (x0 : Option Addr) (x3 : Int) (w : World) : Prop :=
  ∃ (a1 : Addr), x0 = some a1 ∧ ∃ (A2 : Option Addr) (m3 : Nat) (c4 : Nat), w.cell? (a1.add 1) = some (.slice A2 m3 c4) ∧ set_Set_Count.p3 K x3 A2 m3 c4 ((m3 : Nat) : Int) 0 w
abbrev set_Set_Count.p1 (K : Value → World → Prop) (x0 : Option Addr) (w : World) : Prop :=
  set_Set_Count.p2 K x0 0 w
abbrev set_Set_Count.p0 (K : Value → World → Prop) (x0 : Option Addr) (w : World) : Prop :=
  condP x0.isNone (K (.int .i64 0) w) (set_Set_Count.p1 K x0 w)
abbrev set_Set_Count.F (q0 : Option Addr) (K : Value → World → Prop) (w : World) : Prop :=
  set_Set_Count.p0 K q0 w
theorem set_Set_Count.ok {q0 : Option Addr} {K : Value → World → Prop} {w : World} (h : set_Set_Count.F q0 K w) :
    CallsE Tryd.prog 76 #[.pointer q0] w K := by
  refine calls_of_J (n := 23) (rs := [.tmp 2]) Tryd.func76 rfl rfl rfl rfl ?_
  refine J_seq (fun σ w => vP (σ 0) fun x0 => set_Set_Count.p0 K x0 w) ?_ ?_
  ·
    exact sh_sound _ _ _ _ (Eq.mp (by kernel_rfl) h)
  · intro σ w h
    obtain ⟨x0, e0, h⟩ := vP_elim h
    refine J.sub ?_ ((Sub.base _).upd e0)
    clear e0
    refine J_seq (fun σ w => vP (σ 0) fun x0 => set_Set_Count.p1 K x0 w) ?_ ?_
    ·
      exact sh_sound _ _ _ _ (Eq.mp (by kernel_rfl) h)
    · intro σ w h
      obtain ⟨x0, e0, h⟩ := vP_elim h
      refine J.sub ?_ ((Sub.base _).upd e0)
      clear e0
      refine J_seq (fun σ w => vP (σ 0) fun x0 => vI .i64 (σ 3) fun x3 => set_Set_Count.p2 K x0 x3 w) ?_ ?_
      ·
        exact sh_sound _ _ _ _ (Eq.mp (by kernel_rfl) h)
      · intro σ w h
        obtain ⟨x0, e0, h⟩ := vP_elim h
        obtain ⟨x3, e3, h⟩ := vI_elim h
        refine J.sub ?_ (((Sub.base _).upd e0).upd e3)
        clear e0 e3
        refine J_seq (fun σ w => vI .i64 (σ 3) fun x3 => set_Set_Count.p4 K x3 w) ?_ ?_
        ·
          refine J_seq (fun σ w => vI .i64 (σ 3) fun x3 => vS (σ 11) fun x11A x11n x11c => vI .i64 (σ 12) fun x12 => vI .i64 (σ 13) fun x13 => set_Set_Count.p3 K x3 x11A x11n x11c x12 x13 w) ?_ ?_
          ·
            exact sh_sound _ _ _ _ (Eq.mp (by kernel_rfl) h)
          · intro σ w h
            obtain ⟨x3, e3, h⟩ := vI_elim h
            obtain ⟨x11A, x11n, x11c, e11, h⟩ := vS_elim h
            obtain ⟨x12, e12, h⟩ := vI_elim h
            obtain ⟨x13, e13, h⟩ := vI_elim h
            refine J.sub ?_ (((((Sub.base _).upd e3).upd e11).upd e12).upd e13)
            clear e3 e11 e12 e13
            refine J_block ?_
            refine J_loop (fun k σ w => vI .i64 (σ 3) fun x3 => vS (σ 11) fun x11A x11n x11c => vI .i64 (σ 12) fun x12 => vI .i64 (σ 13) fun x13 => set_Set_Count.l0 K k x3 x11A x11n x11c x12 x13 w) (Eq.mp (by kernel_rfl) h) ?_ ?_
            · intro σ w h
              obtain ⟨x3, e3, h⟩ := vI_elim h
              obtain ⟨x11A, x11n, x11c, e11, h⟩ := vS_elim h
              obtain ⟨x12, e12, h⟩ := vI_elim h
              obtain ⟨x13, e13, h⟩ := vI_elim h
              exact h
            · intro k0 σ w h
              obtain ⟨x3, e3, h⟩ := vI_elim h
              obtain ⟨x11A, x11n, x11c, e11, h⟩ := vS_elim h
              obtain ⟨x12, e12, h⟩ := vI_elim h
              obtain ⟨x13, e13, h⟩ := vI_elim h
              refine J.sub ?_ (((((Sub.base _).upd e3).upd e11).upd e12).upd e13)
              clear e3 e11 e12 e13
              exact sh_sound _ _ _ _ (Eq.mp (by kernel_rfl) h)
        · intro σ w h
          obtain ⟨x3, e3, h⟩ := vI_elim h
          refine J.sub ?_ ((Sub.base _).upd e3)
          clear e3
          exact sh_sound _ _ _ _ (Eq.mp (by kernel_rfl) h)

/-! ### (*hayloft/set.Set).First: function 77 -/
abbrev set_Set_First.F (q0 : Option Addr) (q1 : Int) (K : Value → World → Prop) (w : World) : Prop :=
  CallsE Tryd.prog 80 #[.pointer q0, .int .i64 q1, .int .u64 0] w (fun v1 w2 => ∃ (n3 : Int), v1 = .int .i64 n3 ∧ K (.int .i64 n3) w2)
theorem set_Set_First.ok {q0 : Option Addr} {q1 : Int} {K : Value → World → Prop} {w : World} (h : set_Set_First.F q0 q1 K w) :
    CallsE Tryd.prog 77 #[.pointer q0, .int .i64 q1] w K := by
  refine calls_of_J (n := 8) (rs := [.tmp 4]) Tryd.func77 rfl rfl rfl rfl ?_
  exact sh_sound _ _ _ _ (Eq.mp (by kernel_rfl) h)

/-! ### hayloft/hayloftref06.Pages: function 78 -/
abbrev ref06_Pages.F (q0 : Int) (K : Value → World → Prop) (w : World) : Prop :=
  CallsE Tryd.prog 71 #[.int .i64 q0] w (fun v1 w2 => ∃ (n3 : Int), v1 = .int .i64 n3 ∧ condP (decide (n3 < (0 : Int))) (K (.int .i64 0) w2) (CallsE Tryd.prog 71 #[.int .i64 q0] w2 (fun v4 w5 => ∃ (n6 : Int), v4 = .int .i64 n6 ∧ condP (decide (n6 < (7 : Int))) (K (.int .i64 1) w5) ((256 : Int) ≠ 0 ∧ K (.int .i64 (IntKind.wrap .i64 (Int.tdiv (IntKind.wrap .i64 (q0 + (255 : Int))) 256))) w5))))
theorem ref06_Pages.ok {q0 : Int} {K : Value → World → Prop} {w : World} (h : ref06_Pages.F q0 K w) :
    CallsE Tryd.prog 78 #[.int .i64 q0] w K := by
  refine calls_of_J (n := 12) (rs := [.tmp 2]) Tryd.func78 rfl rfl rfl rfl ?_
  exact sh_sound _ _ _ _ (Eq.mp (by kernel_rfl) h)

/-! ### math/bits.OnesCount64: function 79 -/
abbrev math_bits_OnesCount64.F (q0 : Int) (K : Value → World → Prop) (w : World) : Prop :=
  0 ≤ (1 : Int) ∧ 0 ≤ (2 : Int) ∧ 0 ≤ (4 : Int) ∧ 0 ≤ (8 : Int) ∧ 0 ≤ (16 : Int) ∧ 0 ≤ (32 : Int) ∧ K (.int .i64 (ibits .and .i64 (IntKind.wrap .i64 (IntKind.wrap .u64 ((IntKind.wrap .u64 ((IntKind.wrap .u64 ((ibits .and .u64 (IntKind.wrap .u64 ((ishr .u64 (IntKind.wrap .u64 ((ibits .and .u64 (ishr .u64 (IntKind.wrap .u64 ((ibits .and .u64 (ishr .u64 q0 1) 6148914691236517205) + (ibits .and .u64 q0 6148914691236517205))) 2) 3689348814741910323) + (ibits .and .u64 (IntKind.wrap .u64 ((ibits .and .u64 (ishr .u64 q0 1) 6148914691236517205) + (ibits .and .u64 q0 6148914691236517205))) 3689348814741910323))) 4) + (IntKind.wrap .u64 ((ibits .and .u64 (ishr .u64 (IntKind.wrap .u64 ((ibits .and .u64 (ishr .u64 q0 1) 6148914691236517205) + (ibits .and .u64 q0 6148914691236517205))) 2) 3689348814741910323) + (ibits .and .u64 (IntKind.wrap .u64 ((ibits .and .u64 (ishr .u64 q0 1) 6148914691236517205) + (ibits .and .u64 q0 6148914691236517205))) 3689348814741910323))))) 1085102592571150095) + (ishr .u64 (ibits .and .u64 (IntKind.wrap .u64 ((ishr .u64 (IntKind.wrap .u64 ((ibits .and .u64 (ishr .u64 (IntKind.wrap .u64 ((ibits .and .u64 (ishr .u64 q0 1) 6148914691236517205) + (ibits .and .u64 q0 6148914691236517205))) 2) 3689348814741910323) + (ibits .and .u64 (IntKind.wrap .u64 ((ibits .and .u64 (ishr .u64 q0 1) 6148914691236517205) + (ibits .and .u64 q0 6148914691236517205))) 3689348814741910323))) 4) + (IntKind.wrap .u64 ((ibits .and .u64 (ishr .u64 (IntKind.wrap .u64 ((ibits .and .u64 (ishr .u64 q0 1) 6148914691236517205) + (ibits .and .u64 q0 6148914691236517205))) 2) 3689348814741910323) + (ibits .and .u64 (IntKind.wrap .u64 ((ibits .and .u64 (ishr .u64 q0 1) 6148914691236517205) + (ibits .and .u64 q0 6148914691236517205))) 3689348814741910323))))) 1085102592571150095) 8))) + (ishr .u64 (IntKind.wrap .u64 ((ibits .and .u64 (IntKind.wrap .u64 ((ishr .u64 (IntKind.wrap .u64 ((ibits .and .u64 (ishr .u64 (IntKind.wrap .u64 ((ibits .and .u64 (ishr .u64 q0 1) 6148914691236517205) + (ibits .and .u64 q0 6148914691236517205))) 2) 3689348814741910323) + (ibits .and .u64 (IntKind.wrap .u64 ((ibits .and .u64 (ishr .u64 q0 1) 6148914691236517205) + (ibits .and .u64 q0 6148914691236517205))) 3689348814741910323))) 4) + (IntKind.wrap .u64 ((ibits .and .u64 (ishr .u64 (IntKind.wrap .u64 ((ibits .and .u64 (ishr .u64 q0 1) 6148914691236517205) + (ibits .and .u64 q0 6148914691236517205))) 2) 3689348814741910323) + (ibits .and .u64 (IntKind.wrap .u64 ((ibits .and .u64 (ishr .u64 q0 1) 6148914691236517205) + (ibits .and .u64 q0 6148914691236517205))) 3689348814741910323))))) 1085102592571150095) + (ishr .u64 (ibits .and .u64 (IntKind.wrap .u64 ((ishr .u64 (IntKind.wrap .u64 ((ibits .and .u64 (ishr .u64 (IntKind.wrap .u64 ((ibits .and .u64 (ishr .u64 q0 1) 6148914691236517205) + (ibits .and .u64 q0 6148914691236517205))) 2) 3689348814741910323) + (ibits .and .u64 (IntKind.wrap .u64 ((ibits .and .u64 (ishr .u64 q0 1) 6148914691236517205) + (ibits .and .u64 q0 6148914691236517205))) 3689348814741910323))) 4) + (IntKind.wrap .u64 ((ibits .and .u64 (ishr .u64 (IntKind.wrap .u64 ((ibits .and .u64 (ishr .u64 q0 1) 6148914691236517205) + (ibits .and .u64 q0 6148914691236517205))) 2) 3689348814741910323) + (ibits .and .u64 (IntKind.wrap .u64 ((ibits .and .u64 (ishr .u64 q0 1) 6148914691236517205) + (ibits .and .u64 q0 6148914691236517205))) 3689348814741910323))))) 1085102592571150095) 8))) 16))) + (ishr .u64 (IntKind.wrap .u64 ((IntKind.wrap .u64 ((ibits .and .u64 (IntKind.wrap .u64 ((ishr .u64 (IntKind.wrap .u64 ((ibits .and .u64 (ishr .u64 (IntKind.wrap .u64 ((ibits .and .u64 (ishr .u64 q0 1) 6148914691236517205) + (ibits .and .u64 q0 6148914691236517205))) 2) 3689348814741910323) + (ibits .and .u64 (IntKind.wrap .u64 ((ibits .and .u64 (ishr .u64 q0 1) 6148914691236517205) + (ibits .and .u64 q0 6148914691236517205))) 3689348814741910323))) 4) + (IntKind.wrap .u64 ((ibits .and .u64 (ishr .u64 (IntKind.wrap .u64 ((ibits .and .u64 (ishr .u64 q0 1) 6148914691236517205) + (ibits .and .u64 q0 6148914691236517205))) 2) 3689348814741910323) + (ibits .and .u64 (IntKind.wrap .u64 ((ibits .and .u64 (ishr .u64 q0 1) 6148914691236517205) + (ibits .and .u64 q0 6148914691236517205))) 3689348814741910323))))) 1085102592571150095) + (ishr .u64 (ibits .and .u64 (IntKind.wrap .u64 ((ishr .u64 (IntKind.wrap .u64 ((ibits .and .u64 (ishr .u64 (IntKind.wrap .u64 ((ibits .and .u64 (ishr .u64 q0 1) 6148914691236517205) + (ibits .and .u64 q0 6148914691236517205))) 2) 3689348814741910323) + (ibits .and .u64 (IntKind.wrap .u64 ((ibits .and .u64 (ishr .u64 q0 1) 6148914691236517205) + (ibits .and .u64 q0 6148914691236517205))) 3689348814741910323))) 4) + (IntKind.wrap .u64 ((ibits .and .u64 (ishr .u64 (IntKind.wrap .u64 ((ibits .and .u64 (ishr .u64 q0 1) 6148914691236517205) + (ibits .and .u64 q0 6148914691236517205))) 2) 3689348814741910323) + (ibits .and .u64 (IntKind.wrap .u64 ((ibits .and .u64 (ishr .u64 q0 1) 6148914691236517205) + (ibits .and .u64 q0 6148914691236517205))) 3689348814741910323))))) 1085102592571150095) 8))) + (ishr .u64 (IntKind.wrap .u64 ((ibits .and .u64 (IntKind.wrap .u64 ((ishr .u64 (IntKind.wrap .u64 ((ibits .and .u64 (ishr .u64 (IntKind.wrap .u64 ((ibits .and .u64 (ishr .u64 q0 1) 6148914691236517205) + (ibits .and .u64 q0 6148914691236517205))) 2) 3689348814741910323) + (ibits .and .u64 (IntKind.wrap .u64 ((ibits .and .u64 (ishr .u64 q0 1) 6148914691236517205) + (ibits .and .u64 q0 6148914691236517205))) 3689348814741910323))) 4) + (IntKind.wrap .u64 ((ibits .and .u64 (ishr .u64 (IntKind.wrap .u64 ((ibits .and .u64 (ishr .u64 q0 1) 6148914691236517205) + (ibits .and .u64 q0 6148914691236517205))) 2) 3689348814741910323) + (ibits .and .u64 (IntKind.wrap .u64 ((ibits .and .u64 (ishr .u64 q0 1) 6148914691236517205) + (ibits .and .u64 q0 6148914691236517205))) 3689348814741910323))))) 1085102592571150095) + (ishr .u64 (ibits .and .u64 (IntKind.wrap .u64 ((ishr .u64 (IntKind.wrap .u64 ((ibits .and .u64 (ishr .u64 (IntKind.wrap .u64 ((ibits .and .u64 (ishr .u64 q0 1) 6148914691236517205) + (ibits .and .u64 q0 6148914691236517205))) 2) 3689348814741910323) + (ibits .and .u64 (IntKind.wrap .u64 ((ibits .and .u64 (ishr .u64 q0 1) 6148914691236517205) + (ibits .and .u64 q0 6148914691236517205))) 3689348814741910323))) 4) + (IntKind.wrap .u64 ((ibits .and .u64 (ishr .u64 (IntKind.wrap .u64 ((ibits .and .u64 (ishr .u64 q0 1) 6148914691236517205) + (ibits .and .u64 q0 6148914691236517205))) 2) 3689348814741910323) + (ibits .and .u64 (IntKind.wrap .u64 ((ibits .and .u64 (ishr .u64 q0 1) 6148914691236517205) + (ibits .and .u64 q0 6148914691236517205))) 3689348814741910323))))) 1085102592571150095) 8))) 16))) 32)))) 127)) w
theorem math_bits_OnesCount64.ok {q0 : Int} {K : Value → World → Prop} {w : World} (h : math_bits_OnesCount64.F q0 K w) :
    CallsE Tryd.prog 79 #[.int .u64 q0] w K := by
  refine calls_of_J (n := 35) (rs := [.tmp 2]) Tryd.func79 rfl rfl rfl rfl ?_
  exact sh_sound _ _ _ _ (Eq.mp (by kernel_rfl) h)

/-! ### (*hayloft/set.Set).next: function 80 -/
abbrev set_Set_next.p2 (K : Value → World → Prop) (w : World) : Prop :=
  K (.int .i64 (-1)) w
abbrev set_Set_next.b0 (L0 : Option Addr → Int → Int → World → Prop) (K : Value → World → Prop) (x0 : Option Addr) (x1 : Int) (x2 : Int) (w : World) : Prop :=
  CallsE Tryd.prog 60 #[.pointer x0] w (fun v1 w2 => ∃ (n3 : Int), v1 = .int .i64 n3 ∧ condP (decide (x1 < n3)) (∃ (a4 : Addr), x0 = some a4 ∧ ∃ (A5 : Option Addr) (m6 : Nat) (c7 : Nat), w2.cell? (a4.add 1) = some (.slice A5 m6 c7) ∧ (64 : Int) ≠ 0 ∧ (0 ≤ (IntKind.wrap .i64 (Int.tdiv x1 64)) ∧ (IntKind.wrap .i64 (Int.tdiv x1 64)) < ((m6 : Nat) : Int)) ∧ ∃ (a8 : Addr), A5 = some a8 ∧ ∃ (n9 : Int), w2.cell? (a8.add ((IntKind.wrap .i64 (Int.tdiv x1 64)).toNat)) = some (.int .u64 n9) ∧ (64 : Int) ≠ 0 ∧ 0 ≤ (Int.tmod x1 64) ∧ condP ((ishr .u64 (ibits .xor .u64 n9 x2) (Int.tmod x1 64)) != (0 : Int)) (CallsE Tryd.prog 81 #[.int .u64 (ishr .u64 (ibits .xor .u64 n9 x2) (Int.tmod x1 64))] w2 (fun v10 w11 => ∃ (n12 : Int), v10 = .int .i64 n12 ∧ ∃ (a13 : Addr), x0 = some a13 ∧ ∃ (n14 : Int), w11.cell? a13 = some (.int .i64 n14) ∧ condP (decide ((IntKind.wrap .i64 (x1 + n12)) < n14)) (K (.int .i64 (IntKind.wrap .i64 (x1 + n12))) w11) (K (.int .i64 (-1)) w11))) ((64 : Int) ≠ 0 ∧ L0 x0 (IntKind.wrap .i64 ((IntKind.wrap .i64 ((IntKind.wrap .i64 (Int.tdiv x1 64)) * (64 : Int))) + (64 : Int))) x2 w2)) (set_Set_next.p2 K w2))
def set_Set_next.l0 (K : Value → World → Prop) (k : Nat) : Option Addr → Int → Int → World → Prop :=
  Nat.rec (motive := fun _ => Option Addr → Int → Int → World → Prop) (fun _ _ _ _ => False) (fun _ ih => set_Set_next.b0 ih K) k
theorem set_Set_next.l0_succ (K : Value → World → Prop) (k : Nat) (x0 : Option Addr) (x1 : Int) (x2 : Int) (w : World) : set_Set_next.l0 K (k + 1) x0 x1 x2 w = set_Set_next.b0 (set_Set_next.l0 K k) K x0 x1 x2 w := rfl
abbrev set_Set_next.p1 (K : Value → World → Prop) (x0 : Option Addr) (x1 : Int) (x2 : Int) (w : World) : Prop :=
  ∃ k, set_Set_next.l0 K k x0 x1 x2 w
abbrev set_Set_next.p0 (K : Value → World → Prop) (x0 : Option Addr) (x1 : Int) (x2 : Int) (w : World) : Prop :=
  set_Set_next.p1 K x0 (imax 0 x1) x2 w
abbrev set_Set_next.F (q0 : Option Addr) (q1 : Int) (q2 : Int) (K : Value → World → Prop) (w : World) : Prop :=
  set_Set_next.p0 K q0 q1 q2 w
theorem set_Set_next.ok {q0 : Option Addr} {q1 : Int} {q2 : Int} {K : Value → World → Prop} {w : World} (h : set_Set_next.F q0 q1 q2 K w) :
    CallsE Tryd.prog 80 #[.pointer q0, .int .i64 q1, .int .u64 q2] w K := by
  refine calls_of_J (n := 45) (rs := [.tmp 6]) Tryd.func80 rfl rfl rfl rfl ?_
  refine J_seq (fun σ w => vP (σ 0) fun x0 => vI .i64 (σ 1) fun x1 => vI .u64 (σ 2) fun x2 => set_Set_next.p0 K x0 x1 x2 w) ?_ ?_
  ·
    exact sh_sound _ _ _ _ (Eq.mp (by kernel_rfl) h)
  · intro σ w h
    obtain ⟨x0, e0, h⟩ := vP_elim h
    obtain ⟨x1, e1, h⟩ := vI_elim h
    obtain ⟨x2, e2, h⟩ := vI_elim h
    refine J.sub ?_ ((((Sub.base _).upd e0).upd e1).upd e2)
    clear e0 e1 e2
    refine J_seq (fun σ w => vP (σ 0) fun x0 => vI .i64 (σ 1) fun x1 => vI .u64 (σ 2) fun x2 => set_Set_next.p1 K x0 x1 x2 w) ?_ ?_
    ·
      exact sh_sound _ _ _ _ (Eq.mp (by kernel_rfl) h)
    · intro σ w h
      obtain ⟨x0, e0, h⟩ := vP_elim h
      obtain ⟨x1, e1, h⟩ := vI_elim h
      obtain ⟨x2, e2, h⟩ := vI_elim h
      refine J.sub ?_ ((((Sub.base _).upd e0).upd e1).upd e2)
      clear e0 e1 e2
      refine J_seq (fun σ w => set_Set_next.p2 K w) ?_ ?_
      ·
        refine J_block ?_
        refine J_loop (fun k σ w => vP (σ 0) fun x0 => vI .i64 (σ 1) fun x1 => vI .u64 (σ 2) fun x2 => set_Set_next.l0 K k x0 x1 x2 w) (Eq.mp (by kernel_rfl) h) ?_ ?_
        · intro σ w h
          obtain ⟨x0, e0, h⟩ := vP_elim h
          obtain ⟨x1, e1, h⟩ := vI_elim h
          obtain ⟨x2, e2, h⟩ := vI_elim h
          exact h
        · intro k0 σ w h
          obtain ⟨x0, e0, h⟩ := vP_elim h
          obtain ⟨x1, e1, h⟩ := vI_elim h
          obtain ⟨x2, e2, h⟩ := vI_elim h
          refine J.sub ?_ ((((Sub.base _).upd e0).upd e1).upd e2)
          clear e0 e1 e2
          exact sh_sound _ _ _ _ (Eq.mp (by kernel_rfl) h)
      · intro σ w h
        refine J.sub ?_ (Sub.base _)
        exact sh_sound _ _ _ _ (Eq.mp (by kernel_rfl) h)

/-! ### math/bits.TrailingZeros64: function 81 -/
abbrev math_bits_TrailingZeros64.F (q0 : Int) (K : Value → World → Prop) (w : World) : Prop :=
  condP (q0 == (0 : Int)) (K (.int .i64 64) w) (0 ≤ (58 : Int) ∧ (0 ≤ (ishr .u64 (IntKind.wrap .u64 ((ibits .and .u64 q0 (IntKind.wrap .u64 (0 - q0))) * (285870213051353865 : Int))) 58) ∧ (ishr .u64 (IntKind.wrap .u64 ((ibits .and .u64 q0 (IntKind.wrap .u64 (0 - q0))) * (285870213051353865 : Int))) 58) < ((64 : Nat) : Int)) ∧ ∃ (n1 : Int), w.cell? ((⟨0, 0, none⟩ : Addr).add (idxN (ishr .u64 (IntKind.wrap .u64 ((ibits .and .u64 q0 (IntKind.wrap .u64 (0 - q0))) * (285870213051353865 : Int))) 58) 1)) = some (.int .u8 n1) ∧ K (.int .i64 (IntKind.wrap .i64 n1)) w)
theorem math_bits_TrailingZeros64.ok {q0 : Int} {K : Value → World → Prop} {w : World} (h : math_bits_TrailingZeros64.F q0 K w) :
    CallsE Tryd.prog 81 #[.int .u64 q0] w K := by
  refine calls_of_J (n := 14) (rs := [.tmp 2]) Tryd.func81 rfl rfl rfl rfl ?_
  exact sh_sound _ _ _ _ (Eq.mp (by kernel_rfl) h)

end Go.Proofs.YtogmnhdadggnbaaDoor.F
