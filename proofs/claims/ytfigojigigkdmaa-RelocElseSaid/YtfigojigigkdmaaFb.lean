/-
  Printed by a program: for each Go function a proposition that says what it comes to, and the proof that the code comes to it. No condition beyond what each theorem states.
-/
import Derived.Test.YtfigojigigkdmaaFa
set_option linter.unusedVariables false
set_option maxRecDepth 100000
namespace Go.Proofs.Ytfigojigigkdmaa.F
open Go Go.RowKit Go.Proofs.Ytfigojigigkdmaa Go.Proofs.Ytfigojigigkdmaa.Sh

/-! ### hayloft/num.Put: function 26 -/
abbrev num_Put.p11 (K : Value → World → Prop) (x1 : Int) (x5 : Addr) (w : World) : Prop :=
  (0 ≤ x1 ∧ x1 ≤ x1 ∧ (1 : Int) * x1 ≤ 281474976710656 ∧ x1 ≤ 9223372036854775807) ∧ wlet (w.alloc (.cells (madeCells #[.int .u8 0] (x1.toNat * 1)) 5)) fun w13 => SemJ Try.prog (Builtin.copy_ #[22, 22] 3 #[.slice (some ⟨w.heap.size, 0, none⟩) x1.toNat x1.toNat, .slice (slA (some x5) 0 8 1) (8 - 0) (8 - 0)]) (fun v14 w15 => ∃ (n16 : Int), v14 = .int .i64 n16 ∧ K (.slice (some ⟨w.heap.size, 0, none⟩) x1.toNat x1.toNat) w15) w13
abbrev num_Put.p10 (K : Value → World → Prop) (x0 : Int) (x1 : Int) (x5 : Addr) (w : World) : Prop :=
  (0 ≤ (0 : Int) ∧ (0 : Int) < ((8 : Nat) : Int)) ∧ canStore w (x5.add ((0 : Int).toNat)) ∧ wlet (w.setCell (x5.add ((0 : Int).toNat)) (.int .u8 (IntKind.wrap .u8 x0))) fun w12 => num_Put.p11 K x1 x5 w12
abbrev num_Put.p9 (K : Value → World → Prop) (x0 : Int) (x1 : Int) (x5 : Addr) (w : World) : Prop :=
  0 ≤ (8 : Int) ∧ (0 ≤ (1 : Int) ∧ (1 : Int) < ((8 : Nat) : Int)) ∧ canStore w (x5.add ((1 : Int).toNat)) ∧ wlet (w.setCell (x5.add ((1 : Int).toNat)) (.int .u8 (IntKind.wrap .u8 (ishr .u64 x0 8)))) fun w11 => num_Put.p10 K x0 x1 x5 w11
abbrev num_Put.p8 (K : Value → World → Prop) (x0 : Int) (x1 : Int) (x5 : Addr) (w : World) : Prop :=
  0 ≤ (16 : Int) ∧ (0 ≤ (2 : Int) ∧ (2 : Int) < ((8 : Nat) : Int)) ∧ canStore w (x5.add ((2 : Int).toNat)) ∧ wlet (w.setCell (x5.add ((2 : Int).toNat)) (.int .u8 (IntKind.wrap .u8 (ishr .u64 x0 16)))) fun w10 => num_Put.p9 K x0 x1 x5 w10
abbrev num_Put.p7 (K : Value → World → Prop) (x0 : Int) (x1 : Int) (x5 : Addr) (w : World) : Prop :=
  0 ≤ (24 : Int) ∧ (0 ≤ (3 : Int) ∧ (3 : Int) < ((8 : Nat) : Int)) ∧ canStore w (x5.add ((3 : Int).toNat)) ∧ wlet (w.setCell (x5.add ((3 : Int).toNat)) (.int .u8 (IntKind.wrap .u8 (ishr .u64 x0 24)))) fun w9 => num_Put.p8 K x0 x1 x5 w9
abbrev num_Put.p6 (K : Value → World → Prop) (x0 : Int) (x1 : Int) (x5 : Addr) (w : World) : Prop :=
  0 ≤ (32 : Int) ∧ (0 ≤ (4 : Int) ∧ (4 : Int) < ((8 : Nat) : Int)) ∧ canStore w (x5.add ((4 : Int).toNat)) ∧ wlet (w.setCell (x5.add ((4 : Int).toNat)) (.int .u8 (IntKind.wrap .u8 (ishr .u64 x0 32)))) fun w8 => num_Put.p7 K x0 x1 x5 w8
abbrev num_Put.p5 (K : Value → World → Prop) (x0 : Int) (x1 : Int) (x5 : Addr) (w : World) : Prop :=
  0 ≤ (40 : Int) ∧ (0 ≤ (5 : Int) ∧ (5 : Int) < ((8 : Nat) : Int)) ∧ canStore w (x5.add ((5 : Int).toNat)) ∧ wlet (w.setCell (x5.add ((5 : Int).toNat)) (.int .u8 (IntKind.wrap .u8 (ishr .u64 x0 40)))) fun w7 => num_Put.p6 K x0 x1 x5 w7
abbrev num_Put.p4 (K : Value → World → Prop) (x0 : Int) (x1 : Int) (x5 : Addr) (w : World) : Prop :=
  0 ≤ (48 : Int) ∧ (0 ≤ (6 : Int) ∧ (6 : Int) < ((8 : Nat) : Int)) ∧ canStore w (x5.add ((6 : Int).toNat)) ∧ wlet (w.setCell (x5.add ((6 : Int).toNat)) (.int .u8 (IntKind.wrap .u8 (ishr .u64 x0 48)))) fun w6 => num_Put.p5 K x0 x1 x5 w6
abbrev num_Put.p3 (K : Value → World → Prop) (x0 : Int) (x1 : Int) (x5 : Addr) (x9 : Int) (w : World) : Prop :=
  condP (x9 == (8 : Int)) (0 ≤ (56 : Int) ∧ (0 ≤ (7 : Int) ∧ (7 : Int) < ((8 : Nat) : Int)) ∧ canStore w (x5.add ((7 : Int).toNat)) ∧ wlet (w.setCell (x5.add ((7 : Int).toNat)) (.int .u8 (IntKind.wrap .u8 (ishr .u64 x0 56)))) fun w5 => num_Put.p4 K x0 x1 x5 w5) (condP (x9 == (7 : Int)) (num_Put.p4 K x0 x1 x5 w) (condP (x9 == (6 : Int)) (num_Put.p5 K x0 x1 x5 w) (condP (x9 == (5 : Int)) (num_Put.p6 K x0 x1 x5 w) (condP (x9 == (4 : Int)) (num_Put.p7 K x0 x1 x5 w) (condP (x9 == (3 : Int)) (num_Put.p8 K x0 x1 x5 w) (condP (x9 == (2 : Int)) (num_Put.p9 K x0 x1 x5 w) (condP (x9 == (1 : Int)) (num_Put.p10 K x0 x1 x5 w) (num_Put.p11 K x1 x5 w))))))))
abbrev num_Put.p2 (K : Value → World → Prop) (x0 : Int) (x1 : Int) (x5 : Addr) (w : World) : Prop :=
  num_Put.p3 K x0 x1 x5 x1 w
abbrev num_Put.p1 (K : Value → World → Prop) (x0 : Int) (x1 : Int) (x5 : Addr) (w : World) : Prop :=
  CallsE Try.prog 37 #[.int .i64 x1] w (fun v2 w3 => ∃ (n4 : Int), v2 = .int .i64 n4 ∧ num_Put.p2 K x0 n4 x5 w3)
abbrev num_Put.p0 (K : Value → World → Prop) (x0 : Int) (x1 : Int) (w : World) : Prop :=
  wlet (w.alloc (.cells #[.int .u8 0, .int .u8 0, .int .u8 0, .int .u8 0, .int .u8 0, .int .u8 0, .int .u8 0, .int .u8 0] 64)) fun w1 => num_Put.p1 K x0 x1 (⟨w.heap.size, 0, none⟩) w1
abbrev num_Put.F (q0 : Int) (q1 : Int) (K : Value → World → Prop) (w : World) : Prop :=
  num_Put.p0 K q0 q1 w
theorem num_Put.ok {q0 : Int} {q1 : Int} {K : Value → World → Prop} {w : World} (h : num_Put.F q0 q1 K w) :
    CallsE Try.prog 26 #[.int .u64 q0, .int .i64 q1] w K := by
  refine calls_of_J (n := 63) (rs := [.tmp 4]) Try.func26 rfl rfl rfl rfl ?_
  refine J_seq (fun σ w => vI .u64 (σ 0) fun x0 => vI .i64 (σ 1) fun x1 => num_Put.p0 K x0 x1 w) ?_ ?_
  ·
    exact sh_sound _ _ _ _ (Eq.mp (by kernel_rfl) h)
  · intro σ w h
    obtain ⟨x0, e0, h⟩ := vI_elim h
    obtain ⟨x1, e1, h⟩ := vI_elim h
    refine J.sub ?_ (((Sub.base _).upd e0).upd e1)
    clear e0 e1
    refine J_seq (fun σ w => vI .u64 (σ 0) fun x0 => vI .i64 (σ 1) fun x1 => vPa (σ 5) fun x5 => num_Put.p1 K x0 x1 x5 w) ?_ ?_
    ·
      exact sh_sound _ _ _ _ (Eq.mp (by kernel_rfl) h)
    · intro σ w h
      obtain ⟨x0, e0, h⟩ := vI_elim h
      obtain ⟨x1, e1, h⟩ := vI_elim h
      obtain ⟨x5, e5, h⟩ := vPa_elim h
      refine J.sub ?_ ((((Sub.base _).upd e0).upd e1).upd e5)
      clear e0 e1 e5
      refine J_seq (fun σ w => vI .u64 (σ 0) fun x0 => vI .i64 (σ 1) fun x1 => vPa (σ 5) fun x5 => num_Put.p2 K x0 x1 x5 w) ?_ ?_
      ·
        exact sh_sound _ _ _ _ (Eq.mp (by kernel_rfl) h)
      · intro σ w h
        obtain ⟨x0, e0, h⟩ := vI_elim h
        obtain ⟨x1, e1, h⟩ := vI_elim h
        obtain ⟨x5, e5, h⟩ := vPa_elim h
        refine J.sub ?_ ((((Sub.base _).upd e0).upd e1).upd e5)
        clear e0 e1 e5
        refine J_seq (fun σ w => vI .i64 (σ 1) fun x1 => vPa (σ 5) fun x5 => num_Put.p11 K x1 x5 w) ?_ ?_
        ·
          refine J_seq (fun σ w => vI .u64 (σ 0) fun x0 => vI .i64 (σ 1) fun x1 => vPa (σ 5) fun x5 => vI .i64 (σ 9) fun x9 => num_Put.p3 K x0 x1 x5 x9 w) ?_ ?_
          ·
            exact sh_sound _ _ _ _ (Eq.mp (by kernel_rfl) h)
          · intro σ w h
            obtain ⟨x0, e0, h⟩ := vI_elim h
            obtain ⟨x1, e1, h⟩ := vI_elim h
            obtain ⟨x5, e5, h⟩ := vPa_elim h
            obtain ⟨x9, e9, h⟩ := vI_elim h
            refine J.sub ?_ (((((Sub.base _).upd e0).upd e1).upd e5).upd e9)
            clear e0 e1 e5 e9
            refine J_block ?_
            refine J_seq (fun σ w => vI .u64 (σ 0) fun x0 => vI .i64 (σ 1) fun x1 => vPa (σ 5) fun x5 => num_Put.p10 K x0 x1 x5 w) ?_ ?_
            ·
              refine J_block ?_
              refine J_seq (fun σ w => vI .u64 (σ 0) fun x0 => vI .i64 (σ 1) fun x1 => vPa (σ 5) fun x5 => num_Put.p9 K x0 x1 x5 w) ?_ ?_
              ·
                refine J_block ?_
                refine J_seq (fun σ w => vI .u64 (σ 0) fun x0 => vI .i64 (σ 1) fun x1 => vPa (σ 5) fun x5 => num_Put.p8 K x0 x1 x5 w) ?_ ?_
                ·
                  refine J_block ?_
                  refine J_seq (fun σ w => vI .u64 (σ 0) fun x0 => vI .i64 (σ 1) fun x1 => vPa (σ 5) fun x5 => num_Put.p7 K x0 x1 x5 w) ?_ ?_
                  ·
                    refine J_block ?_
                    refine J_seq (fun σ w => vI .u64 (σ 0) fun x0 => vI .i64 (σ 1) fun x1 => vPa (σ 5) fun x5 => num_Put.p6 K x0 x1 x5 w) ?_ ?_
                    ·
                      refine J_block ?_
                      refine J_seq (fun σ w => vI .u64 (σ 0) fun x0 => vI .i64 (σ 1) fun x1 => vPa (σ 5) fun x5 => num_Put.p5 K x0 x1 x5 w) ?_ ?_
                      ·
                        refine J_block ?_
                        refine J_seq (fun σ w => vI .u64 (σ 0) fun x0 => vI .i64 (σ 1) fun x1 => vPa (σ 5) fun x5 => num_Put.p4 K x0 x1 x5 w) ?_ ?_
                        ·
                          exact sh_sound _ _ _ _ (Eq.mp (by kernel_rfl) h)
                        · intro σ w h
                          obtain ⟨x0, e0, h⟩ := vI_elim h
                          obtain ⟨x1, e1, h⟩ := vI_elim h
                          obtain ⟨x5, e5, h⟩ := vPa_elim h
                          refine J.sub ?_ ((((Sub.base _).upd e0).upd e1).upd e5)
                          clear e0 e1 e5
                          exact sh_sound _ _ _ _ (Eq.mp (by kernel_rfl) h)
                      · intro σ w h
                        obtain ⟨x0, e0, h⟩ := vI_elim h
                        obtain ⟨x1, e1, h⟩ := vI_elim h
                        obtain ⟨x5, e5, h⟩ := vPa_elim h
                        refine J.sub ?_ ((((Sub.base _).upd e0).upd e1).upd e5)
                        clear e0 e1 e5
                        exact sh_sound _ _ _ _ (Eq.mp (by kernel_rfl) h)
                    · intro σ w h
                      obtain ⟨x0, e0, h⟩ := vI_elim h
                      obtain ⟨x1, e1, h⟩ := vI_elim h
                      obtain ⟨x5, e5, h⟩ := vPa_elim h
                      refine J.sub ?_ ((((Sub.base _).upd e0).upd e1).upd e5)
                      clear e0 e1 e5
                      exact sh_sound _ _ _ _ (Eq.mp (by kernel_rfl) h)
                  · intro σ w h
                    obtain ⟨x0, e0, h⟩ := vI_elim h
                    obtain ⟨x1, e1, h⟩ := vI_elim h
                    obtain ⟨x5, e5, h⟩ := vPa_elim h
                    refine J.sub ?_ ((((Sub.base _).upd e0).upd e1).upd e5)
                    clear e0 e1 e5
                    exact sh_sound _ _ _ _ (Eq.mp (by kernel_rfl) h)
                · intro σ w h
                  obtain ⟨x0, e0, h⟩ := vI_elim h
                  obtain ⟨x1, e1, h⟩ := vI_elim h
                  obtain ⟨x5, e5, h⟩ := vPa_elim h
                  refine J.sub ?_ ((((Sub.base _).upd e0).upd e1).upd e5)
                  clear e0 e1 e5
                  exact sh_sound _ _ _ _ (Eq.mp (by kernel_rfl) h)
              · intro σ w h
                obtain ⟨x0, e0, h⟩ := vI_elim h
                obtain ⟨x1, e1, h⟩ := vI_elim h
                obtain ⟨x5, e5, h⟩ := vPa_elim h
                refine J.sub ?_ ((((Sub.base _).upd e0).upd e1).upd e5)
                clear e0 e1 e5
                exact sh_sound _ _ _ _ (Eq.mp (by kernel_rfl) h)
            · intro σ w h
              obtain ⟨x0, e0, h⟩ := vI_elim h
              obtain ⟨x1, e1, h⟩ := vI_elim h
              obtain ⟨x5, e5, h⟩ := vPa_elim h
              refine J.sub ?_ ((((Sub.base _).upd e0).upd e1).upd e5)
              clear e0 e1 e5
              exact sh_sound _ _ _ _ (Eq.mp (by kernel_rfl) h)
        · intro σ w h
          obtain ⟨x1, e1, h⟩ := vI_elim h
          obtain ⟨x5, e5, h⟩ := vPa_elim h
          refine J.sub ?_ (((Sub.base _).upd e1).upd e5)
          clear e1 e5
          exact sh_sound _ _ _ _ (Eq.mp (by kernel_rfl) h)

/-! ### hayloft/arena.Good: function 27 -/
abbrev arena_Good.p1 (K : Value → World → Prop) (x2 : Bool) (w : World) : Prop :=
  K (.bool x2) w
abbrev arena_Good.p0 (K : Value → World → Prop) (x0 : Int) (w : World) : Prop :=
  condP (decide ((256 : Int) ≤ x0)) (condP (decide (x0 ≤ (1099511627776 : Int))) ((256 : Int) ≠ 0 ∧ arena_Good.p1 K ((Int.tmod x0 256) == (0 : Int)) w) (arena_Good.p1 K false w)) (arena_Good.p1 K false w)
abbrev arena_Good.F (q0 : Int) (K : Value → World → Prop) (w : World) : Prop :=
  arena_Good.p0 K q0 w
theorem arena_Good.ok {q0 : Int} {K : Value → World → Prop} {w : World} (h : arena_Good.F q0 K w) :
    CallsE Try.prog 27 #[.int .i64 q0] w K := by
  refine calls_of_J (n := 14) (rs := [.tmp 2]) Try.func27 rfl rfl rfl rfl ?_
  refine J_seq (fun σ w => vI .i64 (σ 0) fun x0 => arena_Good.p0 K x0 w) ?_ ?_
  ·
    exact sh_sound _ _ _ _ (Eq.mp (by kernel_rfl) h)
  · intro σ w h
    obtain ⟨x0, e0, h⟩ := vI_elim h
    refine J.sub ?_ ((Sub.base _).upd e0)
    clear e0
    refine J_seq (fun σ w => vB (σ 2) fun x2 => arena_Good.p1 K x2 w) ?_ ?_
    ·
      exact sh_sound _ _ _ _ (Eq.mp (by kernel_rfl) h)
    · intro σ w h
      obtain ⟨x2, e2, h⟩ := vB_elim h
      refine J.sub ?_ ((Sub.base _).upd e2)
      clear e2
      exact sh_sound _ _ _ _ (Eq.mp (by kernel_rfl) h)

/-! ### hayloft/hayloftref08.Good: function 28 -/
abbrev ref08_Good.p1 (K : Value → World → Prop) (x2 : Bool) (w : World) : Prop :=
  K (.bool x2) w
abbrev ref08_Good.p0 (K : Value → World → Prop) (x0 : Int) (w : World) : Prop :=
  condP (decide ((256 : Int) ≤ x0)) (condP (decide (x0 ≤ (1099511627776 : Int))) ((256 : Int) ≠ 0 ∧ ref08_Good.p1 K ((Int.tmod x0 256) == (0 : Int)) w) (ref08_Good.p1 K false w)) (ref08_Good.p1 K false w)
abbrev ref08_Good.F (q0 : Int) (K : Value → World → Prop) (w : World) : Prop :=
  ref08_Good.p0 K q0 w
theorem ref08_Good.ok {q0 : Int} {K : Value → World → Prop} {w : World} (h : ref08_Good.F q0 K w) :
    CallsE Try.prog 28 #[.int .i64 q0] w K := by
  refine calls_of_J (n := 14) (rs := [.tmp 2]) Try.func28 rfl rfl rfl rfl ?_
  refine J_seq (fun σ w => vI .i64 (σ 0) fun x0 => ref08_Good.p0 K x0 w) ?_ ?_
  ·
    exact sh_sound _ _ _ _ (Eq.mp (by kernel_rfl) h)
  · intro σ w h
    obtain ⟨x0, e0, h⟩ := vI_elim h
    refine J.sub ?_ ((Sub.base _).upd e0)
    clear e0
    refine J_seq (fun σ w => vB (σ 2) fun x2 => ref08_Good.p1 K x2 w) ?_ ?_
    ·
      exact sh_sound _ _ _ _ (Eq.mp (by kernel_rfl) h)
    · intro σ w h
      obtain ⟨x2, e2, h⟩ := vB_elim h
      refine J.sub ?_ ((Sub.base _).upd e2)
      clear e2
      exact sh_sound _ _ _ _ (Eq.mp (by kernel_rfl) h)

/-! ### hayloft/hayloftref01.Get: function 29 -/
abbrev ref01_Get.p3 (K : Value → World → Prop) (x3 : Int) (w : World) : Prop :=
  K (.int .u64 x3) w
abbrev ref01_Get.b0 (L0 : Option Addr → Nat → Nat → Int → Int → World → Prop) (K : Value → World → Prop) (x0A : Option Addr) (x0n : Nat) (x0c : Nat) (x3 : Int) (x4 : Int) (w : World) : Prop :=
  condP (decide ((0 : Int) ≤ x4)) ((0 ≤ x4 ∧ x4 < ((x0n : Nat) : Int)) ∧ ∃ (a1 : Addr), x0A = some a1 ∧ ∃ (n2 : Int), w.cell? (a1.add x4.toNat) = some (.int .u8 n2) ∧ L0 x0A x0n x0c (IntKind.wrap .u64 ((IntKind.wrap .u64 (x3 * (256 : Int))) + (IntKind.wrap .u64 n2))) (IntKind.wrap .i64 (x4 - (1 : Int))) w) (ref01_Get.p3 K x3 w)
def ref01_Get.l0 (K : Value → World → Prop) (k : Nat) : Option Addr → Nat → Nat → Int → Int → World → Prop :=
  Nat.rec (motive := fun _ => Option Addr → Nat → Nat → Int → Int → World → Prop) (fun _ _ _ _ _ _ => False) (fun _ ih => ref01_Get.b0 ih K) k
theorem ref01_Get.l0_succ (K : Value → World → Prop) (k : Nat) (x0A : Option Addr) (x0n : Nat) (x0c : Nat) (x3 : Int) (x4 : Int) (w : World) : ref01_Get.l0 K (k + 1) x0A x0n x0c x3 x4 w = ref01_Get.b0 (ref01_Get.l0 K k) K x0A x0n x0c x3 x4 w := rfl
abbrev ref01_Get.p2 (K : Value → World → Prop) (x0A : Option Addr) (x0n : Nat) (x0c : Nat) (x3 : Int) (x4 : Int) (w : World) : Prop :=
  ∃ k, ref01_Get.l0 K k x0A x0n x0c x3 x4 w
abbrev ref01_Get.p1 (K : Value → World → Prop) (x0A : Option Addr) (x0n : Nat) (x0c : Nat) (x3 : Int) (w : World) : Prop :=
  ref01_Get.p2 K x0A x0n x0c x3 (IntKind.wrap .i64 ((imin ((x0n : Nat) : Int) 8) - (1 : Int))) w
abbrev ref01_Get.p0 (K : Value → World → Prop) (x0A : Option Addr) (x0n : Nat) (x0c : Nat) (w : World) : Prop :=
  ref01_Get.p1 K x0A x0n x0c 0 w
abbrev ref01_Get.F (q0A : Option Addr) (q0n : Nat) (q0c : Nat) (K : Value → World → Prop) (w : World) : Prop :=
  ref01_Get.p0 K q0A q0n q0c w
theorem ref01_Get.ok {q0A : Option Addr} {q0n : Nat} {q0c : Nat} {K : Value → World → Prop} {w : World} (h : ref01_Get.F q0A q0n q0c K w) :
    CallsE Try.prog 29 #[.slice q0A q0n q0c] w K := by
  refine calls_of_J (n := 22) (rs := [.tmp 2]) Try.func29 rfl rfl rfl rfl ?_
  refine J_seq (fun σ w => vS (σ 0) fun x0A x0n x0c => ref01_Get.p0 K x0A x0n x0c w) ?_ ?_
  ·
    exact sh_sound _ _ _ _ (Eq.mp (by kernel_rfl) h)
  · intro σ w h
    obtain ⟨x0A, x0n, x0c, e0, h⟩ := vS_elim h
    refine J.sub ?_ ((Sub.base _).upd e0)
    clear e0
    refine J_seq (fun σ w => vS (σ 0) fun x0A x0n x0c => vI .u64 (σ 3) fun x3 => ref01_Get.p1 K x0A x0n x0c x3 w) ?_ ?_
    ·
      exact sh_sound _ _ _ _ (Eq.mp (by kernel_rfl) h)
    · intro σ w h
      obtain ⟨x0A, x0n, x0c, e0, h⟩ := vS_elim h
      obtain ⟨x3, e3, h⟩ := vI_elim h
      refine J.sub ?_ (((Sub.base _).upd e0).upd e3)
      clear e0 e3
      refine J_seq (fun σ w => vI .u64 (σ 3) fun x3 => ref01_Get.p3 K x3 w) ?_ ?_
      ·
        refine J_seq (fun σ w => vS (σ 0) fun x0A x0n x0c => vI .u64 (σ 3) fun x3 => vI .i64 (σ 4) fun x4 => ref01_Get.p2 K x0A x0n x0c x3 x4 w) ?_ ?_
        ·
          exact sh_sound _ _ _ _ (Eq.mp (by kernel_rfl) h)
        · intro σ w h
          obtain ⟨x0A, x0n, x0c, e0, h⟩ := vS_elim h
          obtain ⟨x3, e3, h⟩ := vI_elim h
          obtain ⟨x4, e4, h⟩ := vI_elim h
          refine J.sub ?_ ((((Sub.base _).upd e0).upd e3).upd e4)
          clear e0 e3 e4
          refine J_block ?_
          refine J_loop (fun k σ w => vS (σ 0) fun x0A x0n x0c => vI .u64 (σ 3) fun x3 => vI .i64 (σ 4) fun x4 => ref01_Get.l0 K k x0A x0n x0c x3 x4 w) (Eq.mp (by kernel_rfl) h) ?_ ?_
          · intro σ w h
            obtain ⟨x0A, x0n, x0c, e0, h⟩ := vS_elim h
            obtain ⟨x3, e3, h⟩ := vI_elim h
            obtain ⟨x4, e4, h⟩ := vI_elim h
            exact h
          · intro k0 σ w h
            obtain ⟨x0A, x0n, x0c, e0, h⟩ := vS_elim h
            obtain ⟨x3, e3, h⟩ := vI_elim h
            obtain ⟨x4, e4, h⟩ := vI_elim h
            refine J.sub ?_ ((((Sub.base _).upd e0).upd e3).upd e4)
            clear e0 e3 e4
            exact sh_sound _ _ _ _ (Eq.mp (by kernel_rfl) h)
      · intro σ w h
        obtain ⟨x3, e3, h⟩ := vI_elim h
        refine J.sub ?_ ((Sub.base _).upd e3)
        clear e3
        exact sh_sound _ _ _ _ (Eq.mp (by kernel_rfl) h)

/-! ### hayloft/hayloftref01.Put: function 30 -/
abbrev ref01_Put.p2 (K : Value → World → Prop) (x5A : Option Addr) (x5n : Nat) (x5c : Nat) (w : World) : Prop :=
  K (.slice x5A x5n x5c) w
abbrev ref01_Put.b0 (L0 : Int → Int → Option Addr → Nat → Nat → World → Prop) (K : Value → World → Prop) (x0 : Int) (x1 : Int) (x5A : Option Addr) (x5n : Nat) (x5c : Nat) (w : World) : Prop :=
  CallsE Try.prog 38 #[.int .i64 x1] w (fun v1 w2 => ∃ (n3 : Int), v1 = .int .i64 n3 ∧ condP (decide (((x5n : Nat) : Int) < n3)) ((256 : Int) ≠ 0 ∧ wlet (w2.alloc (.cells #[.int .u8 (IntKind.wrap .u8 (Int.tmod x0 256))] 5)) fun w4 => SemJ Try.prog (Builtin.append_ #[22, 22] 22 #[.slice x5A x5n x5c, .slice (some ⟨w2.heap.size, 0, none⟩) 1 1]) (fun v5 w6 => ∃ (A7 : Option Addr) (m8 : Nat) (c9 : Nat), v5 = .slice A7 m8 c9 ∧ (256 : Int) ≠ 0 ∧ L0 (IntKind.wrap .u64 (Int.tdiv x0 256)) x1 A7 m8 c9 w6) w4) (ref01_Put.p2 K x5A x5n x5c w2))
def ref01_Put.l0 (K : Value → World → Prop) (k : Nat) : Int → Int → Option Addr → Nat → Nat → World → Prop :=
  Nat.rec (motive := fun _ => Int → Int → Option Addr → Nat → Nat → World → Prop) (fun _ _ _ _ _ _ => False) (fun _ ih => ref01_Put.b0 ih K) k
theorem ref01_Put.l0_succ (K : Value → World → Prop) (k : Nat) (x0 : Int) (x1 : Int) (x5A : Option Addr) (x5n : Nat) (x5c : Nat) (w : World) : ref01_Put.l0 K (k + 1) x0 x1 x5A x5n x5c w = ref01_Put.b0 (ref01_Put.l0 K k) K x0 x1 x5A x5n x5c w := rfl
abbrev ref01_Put.p1 (K : Value → World → Prop) (x0 : Int) (x1 : Int) (x5A : Option Addr) (x5n : Nat) (x5c : Nat) (w : World) : Prop :=
  ∃ k, ref01_Put.l0 K k x0 x1 x5A x5n x5c w
abbrev ref01_Put.p0 (K : Value → World → Prop) (x0 : Int) (x1 : Int) (w : World) : Prop :=
  ref01_Put.p1 K x0 x1 none 0 0 w
abbrev ref01_Put.F (q0 : Int) (q1 : Int) (K : Value → World → Prop) (w : World) : Prop :=
  ref01_Put.p0 K q0 q1 w
theorem ref01_Put.ok {q0 : Int} {q1 : Int} {K : Value → World → Prop} {w : World} (h : ref01_Put.F q0 q1 K w) :
    CallsE Try.prog 30 #[.int .u64 q0, .int .i64 q1] w K := by
  refine calls_of_J (n := 20) (rs := [.tmp 4]) Try.func30 rfl rfl rfl rfl ?_
  refine J_seq (fun σ w => vI .u64 (σ 0) fun x0 => vI .i64 (σ 1) fun x1 => ref01_Put.p0 K x0 x1 w) ?_ ?_
  ·
    exact sh_sound _ _ _ _ (Eq.mp (by kernel_rfl) h)
  · intro σ w h
    obtain ⟨x0, e0, h⟩ := vI_elim h
    obtain ⟨x1, e1, h⟩ := vI_elim h
    refine J.sub ?_ (((Sub.base _).upd e0).upd e1)
    clear e0 e1
    refine J_seq (fun σ w => vI .u64 (σ 0) fun x0 => vI .i64 (σ 1) fun x1 => vS (σ 5) fun x5A x5n x5c => ref01_Put.p1 K x0 x1 x5A x5n x5c w) ?_ ?_
    ·
      exact sh_sound _ _ _ _ (Eq.mp (by kernel_rfl) h)
    · intro σ w h
      obtain ⟨x0, e0, h⟩ := vI_elim h
      obtain ⟨x1, e1, h⟩ := vI_elim h
      obtain ⟨x5A, x5n, x5c, e5, h⟩ := vS_elim h
      refine J.sub ?_ ((((Sub.base _).upd e0).upd e1).upd e5)
      clear e0 e1 e5
      refine J_seq (fun σ w => vS (σ 5) fun x5A x5n x5c => ref01_Put.p2 K x5A x5n x5c w) ?_ ?_
      ·
        refine J_block ?_
        refine J_loop (fun k σ w => vI .u64 (σ 0) fun x0 => vI .i64 (σ 1) fun x1 => vS (σ 5) fun x5A x5n x5c => ref01_Put.l0 K k x0 x1 x5A x5n x5c w) (Eq.mp (by kernel_rfl) h) ?_ ?_
        · intro σ w h
          obtain ⟨x0, e0, h⟩ := vI_elim h
          obtain ⟨x1, e1, h⟩ := vI_elim h
          obtain ⟨x5A, x5n, x5c, e5, h⟩ := vS_elim h
          exact h
        · intro k0 σ w h
          obtain ⟨x0, e0, h⟩ := vI_elim h
          obtain ⟨x1, e1, h⟩ := vI_elim h
          obtain ⟨x5A, x5n, x5c, e5, h⟩ := vS_elim h
          refine J.sub ?_ ((((Sub.base _).upd e0).upd e1).upd e5)
          clear e0 e1 e5
          exact sh_sound _ _ _ _ (Eq.mp (by kernel_rfl) h)
      · intro σ w h
        obtain ⟨x5A, x5n, x5c, e5, h⟩ := vS_elim h
        refine J.sub ?_ ((Sub.base _).upd e5)
        clear e5
        exact sh_sound _ _ _ _ (Eq.mp (by kernel_rfl) h)

/-! ### hayloft/num.Var: function 31 -/
abbrev num_Var.p2 (K : Value → World → Prop) (x0 : Int) (x3A : Option Addr) (x3n : Nat) (x3c : Nat) (w : World) : Prop :=
  wlet (w.alloc (.cells #[.int .u8 (IntKind.wrap .u8 x0)] 5)) fun w7 => SemJ Try.prog (Builtin.append_ #[22, 22] 22 #[.slice x3A x3n x3c, .slice (some ⟨w.heap.size, 0, none⟩) 1 1]) (fun v8 w9 => ∃ (A10 : Option Addr) (m11 : Nat) (c12 : Nat), v8 = .slice A10 m11 c12 ∧ K (.slice A10 m11 c12) w9) w7
abbrev num_Var.b0 (L0 : Int → Option Addr → Nat → Nat → World → Prop) (K : Value → World → Prop) (x0 : Int) (x3A : Option Addr) (x3n : Nat) (x3c : Nat) (w : World) : Prop :=
  condP (decide ((128 : Int) ≤ x0)) (wlet (w.alloc (.cells #[.int .u8 (ibits .or .u8 (IntKind.wrap .u8 x0) 128)] 5)) fun w1 => SemJ Try.prog (Builtin.append_ #[22, 22] 22 #[.slice x3A x3n x3c, .slice (some ⟨w.heap.size, 0, none⟩) 1 1]) (fun v2 w3 => ∃ (A4 : Option Addr) (m5 : Nat) (c6 : Nat), v2 = .slice A4 m5 c6 ∧ 0 ≤ (7 : Int) ∧ L0 (ishr .u64 x0 7) A4 m5 c6 w3) w1) (num_Var.p2 K x0 x3A x3n x3c w)
def num_Var.l0 (K : Value → World → Prop) (k : Nat) : Int → Option Addr → Nat → Nat → World → Prop :=
  Nat.rec (motive := fun _ => Int → Option Addr → Nat → Nat → World → Prop) (fun _ _ _ _ _ => False) (fun _ ih => num_Var.b0 ih K) k
theorem num_Var.l0_succ (K : Value → World → Prop) (k : Nat) (x0 : Int) (x3A : Option Addr) (x3n : Nat) (x3c : Nat) (w : World) : num_Var.l0 K (k + 1) x0 x3A x3n x3c w = num_Var.b0 (num_Var.l0 K k) K x0 x3A x3n x3c w := rfl
abbrev num_Var.p1 (K : Value → World → Prop) (x0 : Int) (x3A : Option Addr) (x3n : Nat) (x3c : Nat) (w : World) : Prop :=
  ∃ k, num_Var.l0 K k x0 x3A x3n x3c w
abbrev num_Var.p0 (K : Value → World → Prop) (x0 : Int) (w : World) : Prop :=
  num_Var.p1 K x0 none 0 0 w
abbrev num_Var.F (q0 : Int) (K : Value → World → Prop) (w : World) : Prop :=
  num_Var.p0 K q0 w
theorem num_Var.ok {q0 : Int} {K : Value → World → Prop} {w : World} (h : num_Var.F q0 K w) :
    CallsE Try.prog 31 #[.int .u64 q0] w K := by
  refine calls_of_J (n := 19) (rs := [.tmp 2]) Try.func31 rfl rfl rfl rfl ?_
  refine J_seq (fun σ w => vI .u64 (σ 0) fun x0 => num_Var.p0 K x0 w) ?_ ?_
  ·
    exact sh_sound _ _ _ _ (Eq.mp (by kernel_rfl) h)
  · intro σ w h
    obtain ⟨x0, e0, h⟩ := vI_elim h
    refine J.sub ?_ ((Sub.base _).upd e0)
    clear e0
    refine J_seq (fun σ w => vI .u64 (σ 0) fun x0 => vS (σ 3) fun x3A x3n x3c => num_Var.p1 K x0 x3A x3n x3c w) ?_ ?_
    ·
      exact sh_sound _ _ _ _ (Eq.mp (by kernel_rfl) h)
    · intro σ w h
      obtain ⟨x0, e0, h⟩ := vI_elim h
      obtain ⟨x3A, x3n, x3c, e3, h⟩ := vS_elim h
      refine J.sub ?_ (((Sub.base _).upd e0).upd e3)
      clear e0 e3
      refine J_seq (fun σ w => vI .u64 (σ 0) fun x0 => vS (σ 3) fun x3A x3n x3c => num_Var.p2 K x0 x3A x3n x3c w) ?_ ?_
      ·
        refine J_block ?_
        refine J_loop (fun k σ w => vI .u64 (σ 0) fun x0 => vS (σ 3) fun x3A x3n x3c => num_Var.l0 K k x0 x3A x3n x3c w) (Eq.mp (by kernel_rfl) h) ?_ ?_
        · intro σ w h
          obtain ⟨x0, e0, h⟩ := vI_elim h
          obtain ⟨x3A, x3n, x3c, e3, h⟩ := vS_elim h
          exact h
        · intro k0 σ w h
          obtain ⟨x0, e0, h⟩ := vI_elim h
          obtain ⟨x3A, x3n, x3c, e3, h⟩ := vS_elim h
          refine J.sub ?_ (((Sub.base _).upd e0).upd e3)
          clear e0 e3
          exact sh_sound _ _ _ _ (Eq.mp (by kernel_rfl) h)
      · intro σ w h
        obtain ⟨x0, e0, h⟩ := vI_elim h
        obtain ⟨x3A, x3n, x3c, e3, h⟩ := vS_elim h
        refine J.sub ?_ (((Sub.base _).upd e0).upd e3)
        clear e0 e3
        exact sh_sound _ _ _ _ (Eq.mp (by kernel_rfl) h)

/-! ### hayloft/hayloftref01.Var: function 32 -/
abbrev ref01_Var.p2 (K : Value → World → Prop) (x0 : Int) (x3A : Option Addr) (x3n : Nat) (x3c : Nat) (w : World) : Prop :=
  wlet (w.alloc (.cells #[.int .u8 (IntKind.wrap .u8 x0)] 5)) fun w7 => SemJ Try.prog (Builtin.append_ #[22, 22] 22 #[.slice x3A x3n x3c, .slice (some ⟨w.heap.size, 0, none⟩) 1 1]) (fun v8 w9 => ∃ (A10 : Option Addr) (m11 : Nat) (c12 : Nat), v8 = .slice A10 m11 c12 ∧ K (.slice A10 m11 c12) w9) w7
abbrev ref01_Var.b0 (L0 : Int → Option Addr → Nat → Nat → World → Prop) (K : Value → World → Prop) (x0 : Int) (x3A : Option Addr) (x3n : Nat) (x3c : Nat) (w : World) : Prop :=
  condP (decide ((127 : Int) < x0)) ((128 : Int) ≠ 0 ∧ wlet (w.alloc (.cells #[.int .u8 (IntKind.wrap .u8 ((IntKind.wrap .u8 (Int.tmod x0 128)) + (128 : Int)))] 5)) fun w1 => SemJ Try.prog (Builtin.append_ #[22, 22] 22 #[.slice x3A x3n x3c, .slice (some ⟨w.heap.size, 0, none⟩) 1 1]) (fun v2 w3 => ∃ (A4 : Option Addr) (m5 : Nat) (c6 : Nat), v2 = .slice A4 m5 c6 ∧ (128 : Int) ≠ 0 ∧ L0 (IntKind.wrap .u64 (Int.tdiv x0 128)) A4 m5 c6 w3) w1) (ref01_Var.p2 K x0 x3A x3n x3c w)
def ref01_Var.l0 (K : Value → World → Prop) (k : Nat) : Int → Option Addr → Nat → Nat → World → Prop :=
  Nat.rec (motive := fun _ => Int → Option Addr → Nat → Nat → World → Prop) (fun _ _ _ _ _ => False) (fun _ ih => ref01_Var.b0 ih K) k
theorem ref01_Var.l0_succ (K : Value → World → Prop) (k : Nat) (x0 : Int) (x3A : Option Addr) (x3n : Nat) (x3c : Nat) (w : World) : ref01_Var.l0 K (k + 1) x0 x3A x3n x3c w = ref01_Var.b0 (ref01_Var.l0 K k) K x0 x3A x3n x3c w := rfl
abbrev ref01_Var.p1 (K : Value → World → Prop) (x0 : Int) (x3A : Option Addr) (x3n : Nat) (x3c : Nat) (w : World) : Prop :=
  ∃ k, ref01_Var.l0 K k x0 x3A x3n x3c w
abbrev ref01_Var.p0 (K : Value → World → Prop) (x0 : Int) (w : World) : Prop :=
  ref01_Var.p1 K x0 none 0 0 w
abbrev ref01_Var.F (q0 : Int) (K : Value → World → Prop) (w : World) : Prop :=
  ref01_Var.p0 K q0 w
theorem ref01_Var.ok {q0 : Int} {K : Value → World → Prop} {w : World} (h : ref01_Var.F q0 K w) :
    CallsE Try.prog 32 #[.int .u64 q0] w K := by
  refine calls_of_J (n := 20) (rs := [.tmp 2]) Try.func32 rfl rfl rfl rfl ?_
  refine J_seq (fun σ w => vI .u64 (σ 0) fun x0 => ref01_Var.p0 K x0 w) ?_ ?_
  ·
    exact sh_sound _ _ _ _ (Eq.mp (by kernel_rfl) h)
  · intro σ w h
    obtain ⟨x0, e0, h⟩ := vI_elim h
    refine J.sub ?_ ((Sub.base _).upd e0)
    clear e0
    refine J_seq (fun σ w => vI .u64 (σ 0) fun x0 => vS (σ 3) fun x3A x3n x3c => ref01_Var.p1 K x0 x3A x3n x3c w) ?_ ?_
    ·
      exact sh_sound _ _ _ _ (Eq.mp (by kernel_rfl) h)
    · intro σ w h
      obtain ⟨x0, e0, h⟩ := vI_elim h
      obtain ⟨x3A, x3n, x3c, e3, h⟩ := vS_elim h
      refine J.sub ?_ (((Sub.base _).upd e0).upd e3)
      clear e0 e3
      refine J_seq (fun σ w => vI .u64 (σ 0) fun x0 => vS (σ 3) fun x3A x3n x3c => ref01_Var.p2 K x0 x3A x3n x3c w) ?_ ?_
      ·
        refine J_block ?_
        refine J_loop (fun k σ w => vI .u64 (σ 0) fun x0 => vS (σ 3) fun x3A x3n x3c => ref01_Var.l0 K k x0 x3A x3n x3c w) (Eq.mp (by kernel_rfl) h) ?_ ?_
        · intro σ w h
          obtain ⟨x0, e0, h⟩ := vI_elim h
          obtain ⟨x3A, x3n, x3c, e3, h⟩ := vS_elim h
          exact h
        · intro k0 σ w h
          obtain ⟨x0, e0, h⟩ := vI_elim h
          obtain ⟨x3A, x3n, x3c, e3, h⟩ := vS_elim h
          refine J.sub ?_ (((Sub.base _).upd e0).upd e3)
          clear e0 e3
          exact sh_sound _ _ _ _ (Eq.mp (by kernel_rfl) h)
      · intro σ w h
        obtain ⟨x0, e0, h⟩ := vI_elim h
        obtain ⟨x3A, x3n, x3c, e3, h⟩ := vS_elim h
        refine J.sub ?_ (((Sub.base _).upd e0).upd e3)
        clear e0 e3
        exact sh_sound _ _ _ _ (Eq.mp (by kernel_rfl) h)

/-! ### (*hayloft/num.Reader).Upto: function 33 -/
abbrev num_Reader_Upto.F (q0 : Option Addr) (q1 : Int) (K : Value → World → Prop) (w : World) : Prop :=
  condP q0.isNone (K (.int .u64 0) w) (∃ (a1 : Addr), q0 = some a1 ∧ ∃ (A2 : Option Addr) (m3 : Nat) (c4 : Nat), w.cell? a1 = some (.slice A2 m3 c4) ∧ CallsE Try.prog 39 #[.pointer q0] w (fun v5 w6 => ∃ (n7 : Int), v5 = .int .u64 n7 ∧ condP (decide (q1 < n7)) (∃ (a8 : Addr), q0 = some a8 ∧ canStore w6 a8 ∧ wlet (w6.setCell a8 (.slice A2 m3 c4)) fun w9 => ∃ (a10 : Addr), q0 = some a10 ∧ canStore w9 (a10.add 1) ∧ wlet (w9.setCell (a10.add 1) (.int .i64 4)) fun w11 => K (.int .u64 0) w11) (K (.int .u64 n7) w6)))
theorem num_Reader_Upto.ok {q0 : Option Addr} {q1 : Int} {K : Value → World → Prop} {w : World} (h : num_Reader_Upto.F q0 q1 K w) :
    CallsE Try.prog 33 #[.pointer q0, .int .u64 q1] w K := by
  refine calls_of_J (n := 26) (rs := [.tmp 4]) Try.func33 rfl rfl rfl rfl ?_
  exact sh_sound _ _ _ _ (Eq.mp (by kernel_rfl) h)

/-! ### (*hayloft/num.Reader).Fail: function 34 -/
abbrev num_Reader_Fail.p0 (K : Value → World → Prop) (x0 : Option Addr) (x1 : Int) (x12 : Bool) (w : World) : Prop :=
  condP x12 (∃ (a3 : Addr), x0 = some a3 ∧ canStore w (a3.add 1) ∧ wlet (w.setCell (a3.add 1) (.int .i64 x1)) fun w4 => K (.tuple #[]) w4) (K (.tuple #[]) w)
abbrev num_Reader_Fail.F (q0 : Option Addr) (q1 : Int) (K : Value → World → Prop) (w : World) : Prop :=
  condP (!q0.isNone) (∃ (a1 : Addr), q0 = some a1 ∧ ∃ (n2 : Int), w.cell? (a1.add 1) = some (.int .i64 n2) ∧ num_Reader_Fail.p0 K q0 q1 (n2 == (0 : Int)) w) (num_Reader_Fail.p0 K q0 q1 false w)
theorem num_Reader_Fail.ok {q0 : Option Addr} {q1 : Int} {K : Value → World → Prop} {w : World} (h : num_Reader_Fail.F q0 q1 K w) :
    CallsE Try.prog 34 #[.pointer q0, .int .i64 q1] w K := by
  refine calls_of_J (n := 17) (rs := []) Try.func34 rfl rfl rfl rfl ?_
  refine J_seq (fun σ w => vP (σ 0) fun x0 => vI .i64 (σ 1) fun x1 => vB (σ 12) fun x12 => num_Reader_Fail.p0 K x0 x1 x12 w) ?_ ?_
  ·
    exact sh_sound _ _ _ _ (Eq.mp (by kernel_rfl) h)
  · intro σ w h
    obtain ⟨x0, e0, h⟩ := vP_elim h
    obtain ⟨x1, e1, h⟩ := vI_elim h
    obtain ⟨x12, e12, h⟩ := vB_elim h
    refine J.sub ?_ ((((Sub.base _).upd e0).upd e1).upd e12)
    clear e0 e1 e12
    exact sh_sound _ _ _ _ (Eq.mp (by kernel_rfl) h)

/-! ### (*hayloft/hayloftref01.Reader).Upto: function 35 -/
abbrev ref01_Reader_Upto.p4 (K : Value → World → Prop) (x6 : Int) (w : World) : Prop :=
  K (.int .u64 x6) w
abbrev ref01_Reader_Upto.p3 (K : Value → World → Prop) (x0 : Option Addr) (x5A : Option Addr) (x5n : Nat) (x5c : Nat) (x6 : Int) (x22 : Bool) (w : World) : Prop :=
  condP x22 (∃ (a10 : Addr), x0 = some a10 ∧ canStore w (a10.add 1) ∧ wlet (w.setCell (a10.add 1) (.int .i64 4)) fun w11 => ∃ (a12 : Addr), x0 = some a12 ∧ canStore w11 a12 ∧ wlet (w11.setCell a12 (.slice x5A x5n x5c)) fun w13 => K (.int .u64 0) w13) (ref01_Reader_Upto.p4 K x6 w)
abbrev ref01_Reader_Upto.p2 (K : Value → World → Prop) (x0 : Option Addr) (x1 : Int) (x5A : Option Addr) (x5n : Nat) (x5c : Nat) (x6 : Int) (w : World) : Prop :=
  ∃ (a8 : Addr), x0 = some a8 ∧ ∃ (n9 : Int), w.cell? (a8.add 1) = some (.int .i64 n9) ∧ condP (n9 == (0 : Int)) (ref01_Reader_Upto.p3 K x0 x5A x5n x5c x6 (decide (x1 < x6)) w) (ref01_Reader_Upto.p3 K x0 x5A x5n x5c x6 false w)
abbrev ref01_Reader_Upto.p1 (K : Value → World → Prop) (x0 : Option Addr) (x1 : Int) (x5A : Option Addr) (x5n : Nat) (x5c : Nat) (w : World) : Prop :=
  CallsE Try.prog 40 #[.pointer x0] w (fun v5 w6 => ∃ (n7 : Int), v5 = .int .u64 n7 ∧ ref01_Reader_Upto.p2 K x0 x1 x5A x5n x5c n7 w6)
abbrev ref01_Reader_Upto.p0 (K : Value → World → Prop) (x0 : Option Addr) (x1 : Int) (w : World) : Prop :=
  ∃ (a1 : Addr), x0 = some a1 ∧ ∃ (A2 : Option Addr) (m3 : Nat) (c4 : Nat), w.cell? a1 = some (.slice A2 m3 c4) ∧ ref01_Reader_Upto.p1 K x0 x1 A2 m3 c4 w
abbrev ref01_Reader_Upto.F (q0 : Option Addr) (q1 : Int) (K : Value → World → Prop) (w : World) : Prop :=
  ref01_Reader_Upto.p0 K q0 q1 w
theorem ref01_Reader_Upto.ok {q0 : Option Addr} {q1 : Int} {K : Value → World → Prop} {w : World} (h : ref01_Reader_Upto.F q0 q1 K w) :
    CallsE Try.prog 35 #[.pointer q0, .int .u64 q1] w K := by
  refine calls_of_J (n := 31) (rs := [.tmp 4]) Try.func35 rfl rfl rfl rfl ?_
  refine J_seq (fun σ w => vP (σ 0) fun x0 => vI .u64 (σ 1) fun x1 => ref01_Reader_Upto.p0 K x0 x1 w) ?_ ?_
  ·
    exact sh_sound _ _ _ _ (Eq.mp (by kernel_rfl) h)
  · intro σ w h
    obtain ⟨x0, e0, h⟩ := vP_elim h
    obtain ⟨x1, e1, h⟩ := vI_elim h
    refine J.sub ?_ (((Sub.base _).upd e0).upd e1)
    clear e0 e1
    refine J_seq (fun σ w => vP (σ 0) fun x0 => vI .u64 (σ 1) fun x1 => vS (σ 5) fun x5A x5n x5c => ref01_Reader_Upto.p1 K x0 x1 x5A x5n x5c w) ?_ ?_
    ·
      exact sh_sound _ _ _ _ (Eq.mp (by kernel_rfl) h)
    · intro σ w h
      obtain ⟨x0, e0, h⟩ := vP_elim h
      obtain ⟨x1, e1, h⟩ := vI_elim h
      obtain ⟨x5A, x5n, x5c, e5, h⟩ := vS_elim h
      refine J.sub ?_ ((((Sub.base _).upd e0).upd e1).upd e5)
      clear e0 e1 e5
      refine J_seq (fun σ w => vP (σ 0) fun x0 => vI .u64 (σ 1) fun x1 => vS (σ 5) fun x5A x5n x5c => vI .u64 (σ 6) fun x6 => ref01_Reader_Upto.p2 K x0 x1 x5A x5n x5c x6 w) ?_ ?_
      ·
        exact sh_sound _ _ _ _ (Eq.mp (by kernel_rfl) h)
      · intro σ w h
        obtain ⟨x0, e0, h⟩ := vP_elim h
        obtain ⟨x1, e1, h⟩ := vI_elim h
        obtain ⟨x5A, x5n, x5c, e5, h⟩ := vS_elim h
        obtain ⟨x6, e6, h⟩ := vI_elim h
        refine J.sub ?_ (((((Sub.base _).upd e0).upd e1).upd e5).upd e6)
        clear e0 e1 e5 e6
        refine J_seq (fun σ w => vI .u64 (σ 6) fun x6 => ref01_Reader_Upto.p4 K x6 w) ?_ ?_
        ·
          refine J_seq (fun σ w => vP (σ 0) fun x0 => vS (σ 5) fun x5A x5n x5c => vI .u64 (σ 6) fun x6 => vB (σ 22) fun x22 => ref01_Reader_Upto.p3 K x0 x5A x5n x5c x6 x22 w) ?_ ?_
          ·
            exact sh_sound _ _ _ _ (Eq.mp (by kernel_rfl) h)
          · intro σ w h
            obtain ⟨x0, e0, h⟩ := vP_elim h
            obtain ⟨x5A, x5n, x5c, e5, h⟩ := vS_elim h
            obtain ⟨x6, e6, h⟩ := vI_elim h
            obtain ⟨x22, e22, h⟩ := vB_elim h
            refine J.sub ?_ (((((Sub.base _).upd e0).upd e5).upd e6).upd e22)
            clear e0 e5 e6 e22
            exact sh_sound _ _ _ _ (Eq.mp (by kernel_rfl) h)
        · intro σ w h
          obtain ⟨x6, e6, h⟩ := vI_elim h
          refine J.sub ?_ ((Sub.base _).upd e6)
          clear e6
          exact sh_sound _ _ _ _ (Eq.mp (by kernel_rfl) h)

/-! ### (*hayloft/hayloftref01.Reader).Fail: function 36 -/
abbrev ref01_Reader_Fail.F (q0 : Option Addr) (q1 : Int) (K : Value → World → Prop) (w : World) : Prop :=
  ∃ (a1 : Addr), q0 = some a1 ∧ ∃ (n2 : Int), w.cell? (a1.add 1) = some (.int .i64 n2) ∧ condP (n2 == (0 : Int)) (∃ (a3 : Addr), q0 = some a3 ∧ canStore w (a3.add 1) ∧ wlet (w.setCell (a3.add 1) (.int .i64 q1)) fun w4 => K (.tuple #[]) w4) (K (.tuple #[]) w)
theorem ref01_Reader_Fail.ok {q0 : Option Addr} {q1 : Int} {K : Value → World → Prop} {w : World} (h : ref01_Reader_Fail.F q0 q1 K w) :
    CallsE Try.prog 36 #[.pointer q0, .int .i64 q1] w K := by
  refine calls_of_J (n := 13) (rs := []) Try.func36 rfl rfl rfl rfl ?_
  exact sh_sound _ _ _ _ (Eq.mp (by kernel_rfl) h)

/-! ### hayloft/num.clamp: function 37 -/
abbrev num_clamp.F (q0 : Int) (K : Value → World → Prop) (w : World) : Prop :=
  K (.int .i64 (imax 0 (imin q0 8))) w
theorem num_clamp.ok {q0 : Int} {K : Value → World → Prop} {w : World} (h : num_clamp.F q0 K w) :
    CallsE Try.prog 37 #[.int .i64 q0] w K := by
  refine calls_of_J (n := 6) (rs := [.tmp 2]) Try.func37 rfl rfl rfl rfl ?_
  exact sh_sound _ _ _ _ (Eq.mp (by kernel_rfl) h)

/-! ### hayloft/hayloftref01.Width: function 38 -/
abbrev ref01_Width.F (q0 : Int) (K : Value → World → Prop) (w : World) : Prop :=
  condP (decide (q0 < (0 : Int))) (K (.int .i64 0) w) (condP (decide ((8 : Int) < q0)) (K (.int .i64 8) w) (K (.int .i64 q0) w))
theorem ref01_Width.ok {q0 : Int} {K : Value → World → Prop} {w : World} (h : ref01_Width.F q0 K w) :
    CallsE Try.prog 38 #[.int .i64 q0] w K := by
  refine calls_of_J (n := 8) (rs := [.tmp 2]) Try.func38 rfl rfl rfl rfl ?_
  exact sh_sound _ _ _ _ (Eq.mp (by kernel_rfl) h)

/-! ### (*hayloft/num.Reader).Var: function 39 -/
abbrev num_Reader_Var.p10 (L0 : Option Addr → Int → Option Addr → Nat → Nat → Int → Int → World → Prop) (K : Value → World → Prop) (x0 : Option Addr) (x3 : Int) (x18A : Option Addr) (x18n : Nat) (x18c : Nat) (x19 : Int) (x20 : Int) (w : World) : Prop :=
  L0 x0 x3 x18A x18n x18c x19 (IntKind.wrap .i64 (x20 + (1 : Int))) w
abbrev num_Reader_Var.p9 (L0 : Option Addr → Int → Option Addr → Nat → Nat → Int → Int → World → Prop) (K : Value → World → Prop) (x0 : Option Addr) (x3 : Int) (x4 : Int) (x5 : Int) (x18A : Option Addr) (x18n : Nat) (x18c : Nat) (x19 : Int) (x20 : Int) (w : World) : Prop :=
  0 ≤ (IntKind.wrap .i64 ((7 : Int) * x4)) ∧ condP (decide (x5 < (128 : Int))) (∃ (a9 : Addr), x0 = some a9 ∧ ∃ (A10 : Option Addr) (m11 : Nat) (c12 : Nat), w.cell? a9 = some (.slice A10 m11 c12) ∧ (0 ≤ (IntKind.wrap .i64 (x4 + (1 : Int))) ∧ (IntKind.wrap .i64 (x4 + (1 : Int))) ≤ ((m11 : Nat) : Int)) ∧ ∃ (a13 : Addr), x0 = some a13 ∧ canStore w a13 ∧ wlet (w.setCell a13 (.slice (slA A10 ((IntKind.wrap .i64 (x4 + (1 : Int))).toNat) c12 1) (m11 - ((IntKind.wrap .i64 (x4 + (1 : Int))).toNat)) (c12 - ((IntKind.wrap .i64 (x4 + (1 : Int))).toNat)))) fun w14 => K (.int .u64 (ibits .or .u64 x3 (ishl .u64 (IntKind.wrap .u64 (ibits .and .u8 x5 127)) (IntKind.wrap .i64 ((7 : Int) * x4))))) w14) (num_Reader_Var.p10 L0 K x0 (ibits .or .u64 x3 (ishl .u64 (IntKind.wrap .u64 (ibits .and .u8 x5 127)) (IntKind.wrap .i64 ((7 : Int) * x4)))) x18A x18n x18c x19 x20 w)
abbrev num_Reader_Var.p8 (L0 : Option Addr → Int → Option Addr → Nat → Nat → Int → Int → World → Prop) (K : Value → World → Prop) (x0 : Option Addr) (x3 : Int) (x4 : Int) (x5 : Int) (x18A : Option Addr) (x18n : Nat) (x18c : Nat) (x19 : Int) (x20 : Int) (x38 : Bool) (w : World) : Prop :=
  condP x38 (∃ (a7 : Addr), x0 = some a7 ∧ canStore w (a7.add 1) ∧ wlet (w.setCell (a7.add 1) (.int .i64 4)) fun w8 => K (.int .u64 0) w8) (num_Reader_Var.p9 L0 K x0 x3 x4 x5 x18A x18n x18c x19 x20 w)
abbrev num_Reader_Var.p7 (L0 : Option Addr → Int → Option Addr → Nat → Nat → Int → Int → World → Prop) (K : Value → World → Prop) (x0 : Option Addr) (x3 : Int) (x4 : Int) (x5 : Int) (x18A : Option Addr) (x18n : Nat) (x18c : Nat) (x19 : Int) (x20 : Int) (w : World) : Prop :=
  condP (x4 == (9 : Int)) (condP (decide ((1 : Int) < x5)) (num_Reader_Var.p8 L0 K x0 x3 x4 x5 x18A x18n x18c x19 x20 true w) (condP (decide ((0 : Int) < x4)) (num_Reader_Var.p8 L0 K x0 x3 x4 x5 x18A x18n x18c x19 x20 (x5 == (0 : Int)) w) (num_Reader_Var.p8 L0 K x0 x3 x4 x5 x18A x18n x18c x19 x20 false w))) (condP (decide ((0 : Int) < x4)) (num_Reader_Var.p8 L0 K x0 x3 x4 x5 x18A x18n x18c x19 x20 (x5 == (0 : Int)) w) (num_Reader_Var.p8 L0 K x0 x3 x4 x5 x18A x18n x18c x19 x20 false w))
abbrev num_Reader_Var.p6 (L0 : Option Addr → Int → Option Addr → Nat → Nat → Int → Int → World → Prop) (K : Value → World → Prop) (x0 : Option Addr) (x3 : Int) (x18A : Option Addr) (x18n : Nat) (x18c : Nat) (x19 : Int) (x20 : Int) (w : World) : Prop :=
  (0 ≤ x20 ∧ x20 < ((x18n : Nat) : Int)) ∧ ∃ (a5 : Addr), x18A = some a5 ∧ ∃ (n6 : Int), w.cell? (a5.add x20.toNat) = some (.int .u8 n6) ∧ num_Reader_Var.p7 L0 K x0 x3 x20 n6 x18A x18n x18c x19 x20 w
abbrev num_Reader_Var.p11 (K : Value → World → Prop) (x0 : Option Addr) (w : World) : Prop :=
  ∃ (a15 : Addr), x0 = some a15 ∧ canStore w (a15.add 1) ∧ wlet (w.setCell (a15.add 1) (.int .i64 3)) fun w16 => K (.int .u64 0) w16
abbrev num_Reader_Var.p5 (L0 : Option Addr → Int → Option Addr → Nat → Nat → Int → Int → World → Prop) (K : Value → World → Prop) (x0 : Option Addr) (x3 : Int) (x18A : Option Addr) (x18n : Nat) (x18c : Nat) (x19 : Int) (x20 : Int) (x21 : Bool) (w : World) : Prop :=
  condP x21 (num_Reader_Var.p6 L0 K x0 x3 x18A x18n x18c x19 x20 w) (num_Reader_Var.p11 K x0 w)
abbrev num_Reader_Var.b0 (L0 : Option Addr → Int → Option Addr → Nat → Nat → Int → Int → World → Prop) (K : Value → World → Prop) (x0 : Option Addr) (x3 : Int) (x18A : Option Addr) (x18n : Nat) (x18c : Nat) (x19 : Int) (x20 : Int) (w : World) : Prop :=
  num_Reader_Var.p5 L0 K x0 x3 x18A x18n x18c x19 x20 (decide (x20 < x19)) w
def num_Reader_Var.l0 (K : Value → World → Prop) (k : Nat) : Option Addr → Int → Option Addr → Nat → Nat → Int → Int → World → Prop :=
  Nat.rec (motive := fun _ => Option Addr → Int → Option Addr → Nat → Nat → Int → Int → World → Prop) (fun _ _ _ _ _ _ _ _ => False) (fun _ ih => num_Reader_Var.b0 ih K) k
theorem num_Reader_Var.l0_succ (K : Value → World → Prop) (k : Nat) (x0 : Option Addr) (x3 : Int) (x18A : Option Addr) (x18n : Nat) (x18c : Nat) (x19 : Int) (x20 : Int) (w : World) : num_Reader_Var.l0 K (k + 1) x0 x3 x18A x18n x18c x19 x20 w = num_Reader_Var.b0 (num_Reader_Var.l0 K k) K x0 x3 x18A x18n x18c x19 x20 w := rfl
abbrev num_Reader_Var.p4 (K : Value → World → Prop) (x0 : Option Addr) (x3 : Int) (x18A : Option Addr) (x18n : Nat) (x18c : Nat) (x19 : Int) (x20 : Int) (w : World) : Prop :=
  ∃ k, num_Reader_Var.l0 K k x0 x3 x18A x18n x18c x19 x20 w
abbrev num_Reader_Var.p3 (K : Value → World → Prop) (x0 : Option Addr) (x3 : Int) (w : World) : Prop :=
  ∃ (a1 : Addr), x0 = some a1 ∧ ∃ (A2 : Option Addr) (m3 : Nat) (c4 : Nat), w.cell? a1 = some (.slice A2 m3 c4) ∧ num_Reader_Var.p4 K x0 x3 A2 m3 c4 ((m3 : Nat) : Int) 0 w
abbrev num_Reader_Var.p2 (K : Value → World → Prop) (x0 : Option Addr) (w : World) : Prop :=
  num_Reader_Var.p3 K x0 0 w
abbrev num_Reader_Var.p1 (K : Value → World → Prop) (x0 : Option Addr) (x14 : Bool) (w : World) : Prop :=
  condP x14 (K (.int .u64 0) w) (num_Reader_Var.p2 K x0 w)
abbrev num_Reader_Var.p0 (K : Value → World → Prop) (x0 : Option Addr) (w : World) : Prop :=
  condP x0.isNone (num_Reader_Var.p1 K x0 true w) (∃ (a17 : Addr), x0 = some a17 ∧ ∃ (n18 : Int), w.cell? (a17.add 1) = some (.int .i64 n18) ∧ num_Reader_Var.p1 K x0 (n18 != (0 : Int)) w)
abbrev num_Reader_Var.F (q0 : Option Addr) (K : Value → World → Prop) (w : World) : Prop :=
  num_Reader_Var.p0 K q0 w
theorem num_Reader_Var.ok {q0 : Option Addr} {K : Value → World → Prop} {w : World} (h : num_Reader_Var.F q0 K w) :
    CallsE Try.prog 39 #[.pointer q0] w K := by
  refine calls_of_J (n := 67) (rs := [.tmp 2]) Try.func39 rfl rfl rfl rfl ?_
  refine J_seq (fun σ w => vP (σ 0) fun x0 => num_Reader_Var.p0 K x0 w) ?_ ?_
  ·
    exact sh_sound _ _ _ _ (Eq.mp (by kernel_rfl) h)
  · intro σ w h
    obtain ⟨x0, e0, h⟩ := vP_elim h
    refine J.sub ?_ ((Sub.base _).upd e0)
    clear e0
    refine J_seq (fun σ w => vP (σ 0) fun x0 => num_Reader_Var.p2 K x0 w) ?_ ?_
    ·
      refine J_seq (fun σ w => vP (σ 0) fun x0 => vB (σ 14) fun x14 => num_Reader_Var.p1 K x0 x14 w) ?_ ?_
      ·
        exact sh_sound _ _ _ _ (Eq.mp (by kernel_rfl) h)
      · intro σ w h
        obtain ⟨x0, e0, h⟩ := vP_elim h
        obtain ⟨x14, e14, h⟩ := vB_elim h
        refine J.sub ?_ (((Sub.base _).upd e0).upd e14)
        clear e0 e14
        exact sh_sound _ _ _ _ (Eq.mp (by kernel_rfl) h)
    · intro σ w h
      obtain ⟨x0, e0, h⟩ := vP_elim h
      refine J.sub ?_ ((Sub.base _).upd e0)
      clear e0
      refine J_seq (fun σ w => vP (σ 0) fun x0 => vI .u64 (σ 3) fun x3 => num_Reader_Var.p3 K x0 x3 w) ?_ ?_
      ·
        exact sh_sound _ _ _ _ (Eq.mp (by kernel_rfl) h)
      · intro σ w h
        obtain ⟨x0, e0, h⟩ := vP_elim h
        obtain ⟨x3, e3, h⟩ := vI_elim h
        refine J.sub ?_ (((Sub.base _).upd e0).upd e3)
        clear e0 e3
        refine J_seq (fun σ w => vP (σ 0) fun x0 => num_Reader_Var.p11 K x0 w) ?_ ?_
        ·
          refine J_seq (fun σ w => vP (σ 0) fun x0 => vI .u64 (σ 3) fun x3 => vS (σ 18) fun x18A x18n x18c => vI .i64 (σ 19) fun x19 => vI .i64 (σ 20) fun x20 => num_Reader_Var.p4 K x0 x3 x18A x18n x18c x19 x20 w) ?_ ?_
          ·
            exact sh_sound _ _ _ _ (Eq.mp (by kernel_rfl) h)
          · intro σ w h
            obtain ⟨x0, e0, h⟩ := vP_elim h
            obtain ⟨x3, e3, h⟩ := vI_elim h
            obtain ⟨x18A, x18n, x18c, e18, h⟩ := vS_elim h
            obtain ⟨x19, e19, h⟩ := vI_elim h
            obtain ⟨x20, e20, h⟩ := vI_elim h
            refine J.sub ?_ ((((((Sub.base _).upd e0).upd e3).upd e18).upd e19).upd e20)
            clear e0 e3 e18 e19 e20
            refine J_block ?_
            refine J_loop (fun k σ w => vP (σ 0) fun x0 => vI .u64 (σ 3) fun x3 => vS (σ 18) fun x18A x18n x18c => vI .i64 (σ 19) fun x19 => vI .i64 (σ 20) fun x20 => num_Reader_Var.l0 K k x0 x3 x18A x18n x18c x19 x20 w) (Eq.mp (by kernel_rfl) h) ?_ ?_
            · intro σ w h
              obtain ⟨x0, e0, h⟩ := vP_elim h
              obtain ⟨x3, e3, h⟩ := vI_elim h
              obtain ⟨x18A, x18n, x18c, e18, h⟩ := vS_elim h
              obtain ⟨x19, e19, h⟩ := vI_elim h
              obtain ⟨x20, e20, h⟩ := vI_elim h
              exact h
            · intro k0 σ w h
              obtain ⟨x0, e0, h⟩ := vP_elim h
              obtain ⟨x3, e3, h⟩ := vI_elim h
              obtain ⟨x18A, x18n, x18c, e18, h⟩ := vS_elim h
              obtain ⟨x19, e19, h⟩ := vI_elim h
              obtain ⟨x20, e20, h⟩ := vI_elim h
              refine J.sub ?_ ((((((Sub.base _).upd e0).upd e3).upd e18).upd e19).upd e20)
              clear e0 e3 e18 e19 e20
              refine J_seq (fun σ w => vP (σ 0) fun x0 => vI .u64 (σ 3) fun x3 => vS (σ 18) fun x18A x18n x18c => vI .i64 (σ 19) fun x19 => vI .i64 (σ 20) fun x20 => vB (σ 21) fun x21 => num_Reader_Var.p5 (num_Reader_Var.l0 K k0) K x0 x3 x18A x18n x18c x19 x20 x21 w) ?_ ?_
              ·
                exact sh_sound _ _ _ _ (Eq.mp (by kernel_rfl) h)
              · intro σ w h
                obtain ⟨x0, e0, h⟩ := vP_elim h
                obtain ⟨x3, e3, h⟩ := vI_elim h
                obtain ⟨x18A, x18n, x18c, e18, h⟩ := vS_elim h
                obtain ⟨x19, e19, h⟩ := vI_elim h
                obtain ⟨x20, e20, h⟩ := vI_elim h
                obtain ⟨x21, e21, h⟩ := vB_elim h
                refine J.sub ?_ (((((((Sub.base _).upd e0).upd e3).upd e18).upd e19).upd e20).upd e21)
                clear e0 e3 e18 e19 e20 e21
                refine J_seq (fun σ w => vP (σ 0) fun x0 => vI .u64 (σ 3) fun x3 => vS (σ 18) fun x18A x18n x18c => vI .i64 (σ 19) fun x19 => vI .i64 (σ 20) fun x20 => num_Reader_Var.p6 (num_Reader_Var.l0 K k0) K x0 x3 x18A x18n x18c x19 x20 w) ?_ ?_
                ·
                  exact sh_sound _ _ _ _ (Eq.mp (by kernel_rfl) h)
                · intro σ w h
                  obtain ⟨x0, e0, h⟩ := vP_elim h
                  obtain ⟨x3, e3, h⟩ := vI_elim h
                  obtain ⟨x18A, x18n, x18c, e18, h⟩ := vS_elim h
                  obtain ⟨x19, e19, h⟩ := vI_elim h
                  obtain ⟨x20, e20, h⟩ := vI_elim h
                  refine J.sub ?_ ((((((Sub.base _).upd e0).upd e3).upd e18).upd e19).upd e20)
                  clear e0 e3 e18 e19 e20
                  refine J_seq (fun σ w => vP (σ 0) fun x0 => vI .u64 (σ 3) fun x3 => vS (σ 18) fun x18A x18n x18c => vI .i64 (σ 19) fun x19 => vI .i64 (σ 20) fun x20 => num_Reader_Var.p10 (num_Reader_Var.l0 K k0) K x0 x3 x18A x18n x18c x19 x20 w) ?_ ?_
                  ·
                    refine J_block ?_
                    refine J_seq (fun σ w => vP (σ 0) fun x0 => vI .u64 (σ 3) fun x3 => vI .i64 (σ 4) fun x4 => vI .u8 (σ 5) fun x5 => vS (σ 18) fun x18A x18n x18c => vI .i64 (σ 19) fun x19 => vI .i64 (σ 20) fun x20 => num_Reader_Var.p7 (num_Reader_Var.l0 K k0) K x0 x3 x4 x5 x18A x18n x18c x19 x20 w) ?_ ?_
                    ·
                      exact sh_sound _ _ _ _ (Eq.mp (by kernel_rfl) h)
                    · intro σ w h
                      obtain ⟨x0, e0, h⟩ := vP_elim h
                      obtain ⟨x3, e3, h⟩ := vI_elim h
                      obtain ⟨x4, e4, h⟩ := vI_elim h
                      obtain ⟨x5, e5, h⟩ := vI_elim h
                      obtain ⟨x18A, x18n, x18c, e18, h⟩ := vS_elim h
                      obtain ⟨x19, e19, h⟩ := vI_elim h
                      obtain ⟨x20, e20, h⟩ := vI_elim h
                      refine J.sub ?_ ((((((((Sub.base _).upd e0).upd e3).upd e4).upd e5).upd e18).upd e19).upd e20)
                      clear e0 e3 e4 e5 e18 e19 e20
                      refine J_seq (fun σ w => vP (σ 0) fun x0 => vI .u64 (σ 3) fun x3 => vI .i64 (σ 4) fun x4 => vI .u8 (σ 5) fun x5 => vS (σ 18) fun x18A x18n x18c => vI .i64 (σ 19) fun x19 => vI .i64 (σ 20) fun x20 => num_Reader_Var.p9 (num_Reader_Var.l0 K k0) K x0 x3 x4 x5 x18A x18n x18c x19 x20 w) ?_ ?_
                      ·
                        refine J_seq (fun σ w => vP (σ 0) fun x0 => vI .u64 (σ 3) fun x3 => vI .i64 (σ 4) fun x4 => vI .u8 (σ 5) fun x5 => vS (σ 18) fun x18A x18n x18c => vI .i64 (σ 19) fun x19 => vI .i64 (σ 20) fun x20 => vB (σ 38) fun x38 => num_Reader_Var.p8 (num_Reader_Var.l0 K k0) K x0 x3 x4 x5 x18A x18n x18c x19 x20 x38 w) ?_ ?_
                        ·
                          exact sh_sound _ _ _ _ (Eq.mp (by kernel_rfl) h)
                        · intro σ w h
                          obtain ⟨x0, e0, h⟩ := vP_elim h
                          obtain ⟨x3, e3, h⟩ := vI_elim h
                          obtain ⟨x4, e4, h⟩ := vI_elim h
                          obtain ⟨x5, e5, h⟩ := vI_elim h
                          obtain ⟨x18A, x18n, x18c, e18, h⟩ := vS_elim h
                          obtain ⟨x19, e19, h⟩ := vI_elim h
                          obtain ⟨x20, e20, h⟩ := vI_elim h
                          obtain ⟨x38, e38, h⟩ := vB_elim h
                          refine J.sub ?_ (((((((((Sub.base _).upd e0).upd e3).upd e4).upd e5).upd e18).upd e19).upd e20).upd e38)
                          clear e0 e3 e4 e5 e18 e19 e20 e38
                          exact sh_sound _ _ _ _ (Eq.mp (by kernel_rfl) h)
                      · intro σ w h
                        obtain ⟨x0, e0, h⟩ := vP_elim h
                        obtain ⟨x3, e3, h⟩ := vI_elim h
                        obtain ⟨x4, e4, h⟩ := vI_elim h
                        obtain ⟨x5, e5, h⟩ := vI_elim h
                        obtain ⟨x18A, x18n, x18c, e18, h⟩ := vS_elim h
                        obtain ⟨x19, e19, h⟩ := vI_elim h
                        obtain ⟨x20, e20, h⟩ := vI_elim h
                        refine J.sub ?_ ((((((((Sub.base _).upd e0).upd e3).upd e4).upd e5).upd e18).upd e19).upd e20)
                        clear e0 e3 e4 e5 e18 e19 e20
                        exact sh_sound _ _ _ _ (Eq.mp (by kernel_rfl) h)
                  · intro σ w h
                    obtain ⟨x0, e0, h⟩ := vP_elim h
                    obtain ⟨x3, e3, h⟩ := vI_elim h
                    obtain ⟨x18A, x18n, x18c, e18, h⟩ := vS_elim h
                    obtain ⟨x19, e19, h⟩ := vI_elim h
                    obtain ⟨x20, e20, h⟩ := vI_elim h
                    refine J.sub ?_ ((((((Sub.base _).upd e0).upd e3).upd e18).upd e19).upd e20)
                    clear e0 e3 e18 e19 e20
                    exact sh_sound _ _ _ _ (Eq.mp (by kernel_rfl) h)
        · intro σ w h
          obtain ⟨x0, e0, h⟩ := vP_elim h
          refine J.sub ?_ ((Sub.base _).upd e0)
          clear e0
          exact sh_sound _ _ _ _ (Eq.mp (by kernel_rfl) h)

/-! ### (*hayloft/hayloftref01.Reader).Var: function 40 -/
abbrev ref01_Reader_Var.p9 (L0 : Option Addr → Int → Int → Int → World → Prop) (K : Value → World → Prop) (x0 : Option Addr) (x3 : Int) (x4 : Int) (x5 : Int) (w : World) : Prop :=
  L0 x0 x3 x4 (IntKind.wrap .i64 (x5 + (1 : Int))) w
abbrev ref01_Reader_Var.p8 (L0 : Option Addr → Int → Int → Int → World → Prop) (K : Value → World → Prop) (x0 : Option Addr) (x3 : Int) (x4 : Int) (x5 : Int) (x6 : Int) (w : World) : Prop :=
  (128 : Int) ≠ 0 ∧ condP (decide (x6 < (128 : Int))) (∃ (a17 : Addr), x0 = some a17 ∧ ∃ (A18 : Option Addr) (m19 : Nat) (c20 : Nat), w.cell? a17 = some (.slice A18 m19 c20) ∧ (0 ≤ (IntKind.wrap .i64 (x5 + (1 : Int))) ∧ (IntKind.wrap .i64 (x5 + (1 : Int))) ≤ ((m19 : Nat) : Int)) ∧ ∃ (a21 : Addr), x0 = some a21 ∧ canStore w a21 ∧ wlet (w.setCell a21 (.slice (slA A18 ((IntKind.wrap .i64 (x5 + (1 : Int))).toNat) c20 1) (m19 - ((IntKind.wrap .i64 (x5 + (1 : Int))).toNat)) (c20 - ((IntKind.wrap .i64 (x5 + (1 : Int))).toNat)))) fun w22 => K (.int .u64 (IntKind.wrap .u64 (x3 + (IntKind.wrap .u64 ((IntKind.wrap .u64 (Int.tmod x6 128)) * x4))))) w22) (ref01_Reader_Var.p9 L0 K x0 (IntKind.wrap .u64 (x3 + (IntKind.wrap .u64 ((IntKind.wrap .u64 (Int.tmod x6 128)) * x4)))) (IntKind.wrap .u64 (x4 * (128 : Int))) x5 w)
abbrev ref01_Reader_Var.p7 (L0 : Option Addr → Int → Int → Int → World → Prop) (K : Value → World → Prop) (x0 : Option Addr) (x3 : Int) (x4 : Int) (x5 : Int) (x6 : Int) (x44 : Bool) (w : World) : Prop :=
  condP x44 (∃ (a15 : Addr), x0 = some a15 ∧ canStore w (a15.add 1) ∧ wlet (w.setCell (a15.add 1) (.int .i64 4)) fun w16 => K (.int .u64 0) w16) (ref01_Reader_Var.p8 L0 K x0 x3 x4 x5 x6 w)
abbrev ref01_Reader_Var.p6 (L0 : Option Addr → Int → Int → Int → World → Prop) (K : Value → World → Prop) (x0 : Option Addr) (x3 : Int) (x4 : Int) (x5 : Int) (x6 : Int) (w : World) : Prop :=
  condP (x5 == (9 : Int)) (condP (decide ((1 : Int) < x6)) (ref01_Reader_Var.p7 L0 K x0 x3 x4 x5 x6 true w) (condP (decide ((0 : Int) < x5)) (ref01_Reader_Var.p7 L0 K x0 x3 x4 x5 x6 (x6 == (0 : Int)) w) (ref01_Reader_Var.p7 L0 K x0 x3 x4 x5 x6 false w))) (condP (decide ((0 : Int) < x5)) (ref01_Reader_Var.p7 L0 K x0 x3 x4 x5 x6 (x6 == (0 : Int)) w) (ref01_Reader_Var.p7 L0 K x0 x3 x4 x5 x6 false w))
abbrev ref01_Reader_Var.p5 (L0 : Option Addr → Int → Int → Int → World → Prop) (K : Value → World → Prop) (x0 : Option Addr) (x3 : Int) (x4 : Int) (x5 : Int) (w : World) : Prop :=
  ∃ (a9 : Addr), x0 = some a9 ∧ ∃ (A10 : Option Addr) (m11 : Nat) (c12 : Nat), w.cell? a9 = some (.slice A10 m11 c12) ∧ (0 ≤ x5 ∧ x5 < ((m11 : Nat) : Int)) ∧ ∃ (a13 : Addr), A10 = some a13 ∧ ∃ (n14 : Int), w.cell? (a13.add x5.toNat) = some (.int .u8 n14) ∧ ref01_Reader_Var.p6 L0 K x0 x3 x4 x5 n14 w
abbrev ref01_Reader_Var.b0 (L0 : Option Addr → Int → Int → Int → World → Prop) (K : Value → World → Prop) (x0 : Option Addr) (x3 : Int) (x4 : Int) (x5 : Int) (w : World) : Prop :=
  ∃ (a3 : Addr), x0 = some a3 ∧ ∃ (A4 : Option Addr) (m5 : Nat) (c6 : Nat), w.cell? a3 = some (.slice A4 m5 c6) ∧ condP (decide (((m5 : Nat) : Int) ≤ x5)) (∃ (a7 : Addr), x0 = some a7 ∧ canStore w (a7.add 1) ∧ wlet (w.setCell (a7.add 1) (.int .i64 3)) fun w8 => K (.int .u64 0) w8) (ref01_Reader_Var.p5 L0 K x0 x3 x4 x5 w)
def ref01_Reader_Var.l0 (K : Value → World → Prop) (k : Nat) : Option Addr → Int → Int → Int → World → Prop :=
  Nat.rec (motive := fun _ => Option Addr → Int → Int → Int → World → Prop) (fun _ _ _ _ _ => False) (fun _ ih => ref01_Reader_Var.b0 ih K) k
theorem ref01_Reader_Var.l0_succ (K : Value → World → Prop) (k : Nat) (x0 : Option Addr) (x3 : Int) (x4 : Int) (x5 : Int) (w : World) : ref01_Reader_Var.l0 K (k + 1) x0 x3 x4 x5 w = ref01_Reader_Var.b0 (ref01_Reader_Var.l0 K k) K x0 x3 x4 x5 w := rfl
abbrev ref01_Reader_Var.p4 (K : Value → World → Prop) (x0 : Option Addr) (x3 : Int) (x4 : Int) (x5 : Int) (w : World) : Prop :=
  ∃ k, ref01_Reader_Var.l0 K k x0 x3 x4 x5 w
abbrev ref01_Reader_Var.p3 (K : Value → World → Prop) (x0 : Option Addr) (x3 : Int) (x4 : Int) (w : World) : Prop :=
  ref01_Reader_Var.p4 K x0 x3 x4 0 w
abbrev ref01_Reader_Var.p2 (K : Value → World → Prop) (x0 : Option Addr) (x3 : Int) (w : World) : Prop :=
  ref01_Reader_Var.p3 K x0 x3 1 w
abbrev ref01_Reader_Var.p1 (K : Value → World → Prop) (x0 : Option Addr) (w : World) : Prop :=
  ref01_Reader_Var.p2 K x0 0 w
abbrev ref01_Reader_Var.p0 (K : Value → World → Prop) (x0 : Option Addr) (w : World) : Prop :=
  ∃ (a1 : Addr), x0 = some a1 ∧ ∃ (n2 : Int), w.cell? (a1.add 1) = some (.int .i64 n2) ∧ condP (n2 != (0 : Int)) (K (.int .u64 0) w) (ref01_Reader_Var.p1 K x0 w)
abbrev ref01_Reader_Var.F (q0 : Option Addr) (K : Value → World → Prop) (w : World) : Prop :=
  ref01_Reader_Var.p0 K q0 w
theorem ref01_Reader_Var.ok {q0 : Option Addr} {K : Value → World → Prop} {w : World} (h : ref01_Reader_Var.F q0 K w) :
    CallsE Try.prog 40 #[.pointer q0] w K := by
  refine calls_of_J (n := 70) (rs := [.tmp 2]) Try.func40 rfl rfl rfl rfl ?_
  refine J_seq (fun σ w => vP (σ 0) fun x0 => ref01_Reader_Var.p0 K x0 w) ?_ ?_
  ·
    exact sh_sound _ _ _ _ (Eq.mp (by kernel_rfl) h)
  · intro σ w h
    obtain ⟨x0, e0, h⟩ := vP_elim h
    refine J.sub ?_ ((Sub.base _).upd e0)
    clear e0
    refine J_seq (fun σ w => vP (σ 0) fun x0 => ref01_Reader_Var.p1 K x0 w) ?_ ?_
    ·
      exact sh_sound _ _ _ _ (Eq.mp (by kernel_rfl) h)
    · intro σ w h
      obtain ⟨x0, e0, h⟩ := vP_elim h
      refine J.sub ?_ ((Sub.base _).upd e0)
      clear e0
      refine J_seq (fun σ w => vP (σ 0) fun x0 => vI .u64 (σ 3) fun x3 => ref01_Reader_Var.p2 K x0 x3 w) ?_ ?_
      ·
        exact sh_sound _ _ _ _ (Eq.mp (by kernel_rfl) h)
      · intro σ w h
        obtain ⟨x0, e0, h⟩ := vP_elim h
        obtain ⟨x3, e3, h⟩ := vI_elim h
        refine J.sub ?_ (((Sub.base _).upd e0).upd e3)
        clear e0 e3
        refine J_seq (fun σ w => vP (σ 0) fun x0 => vI .u64 (σ 3) fun x3 => vI .u64 (σ 4) fun x4 => ref01_Reader_Var.p3 K x0 x3 x4 w) ?_ ?_
        ·
          exact sh_sound _ _ _ _ (Eq.mp (by kernel_rfl) h)
        · intro σ w h
          obtain ⟨x0, e0, h⟩ := vP_elim h
          obtain ⟨x3, e3, h⟩ := vI_elim h
          obtain ⟨x4, e4, h⟩ := vI_elim h
          refine J.sub ?_ ((((Sub.base _).upd e0).upd e3).upd e4)
          clear e0 e3 e4
          refine J_seq (fun σ w => vP (σ 0) fun x0 => vI .u64 (σ 3) fun x3 => vI .u64 (σ 4) fun x4 => vI .i64 (σ 5) fun x5 => ref01_Reader_Var.p4 K x0 x3 x4 x5 w) ?_ ?_
          ·
            exact sh_sound _ _ _ _ (Eq.mp (by kernel_rfl) h)
          · intro σ w h
            obtain ⟨x0, e0, h⟩ := vP_elim h
            obtain ⟨x3, e3, h⟩ := vI_elim h
            obtain ⟨x4, e4, h⟩ := vI_elim h
            obtain ⟨x5, e5, h⟩ := vI_elim h
            refine J.sub ?_ (((((Sub.base _).upd e0).upd e3).upd e4).upd e5)
            clear e0 e3 e4 e5
            refine J_block ?_
            refine J_loop (fun k σ w => vP (σ 0) fun x0 => vI .u64 (σ 3) fun x3 => vI .u64 (σ 4) fun x4 => vI .i64 (σ 5) fun x5 => ref01_Reader_Var.l0 K k x0 x3 x4 x5 w) (Eq.mp (by kernel_rfl) h) ?_ ?_
            · intro σ w h
              obtain ⟨x0, e0, h⟩ := vP_elim h
              obtain ⟨x3, e3, h⟩ := vI_elim h
              obtain ⟨x4, e4, h⟩ := vI_elim h
              obtain ⟨x5, e5, h⟩ := vI_elim h
              exact h
            · intro k0 σ w h
              obtain ⟨x0, e0, h⟩ := vP_elim h
              obtain ⟨x3, e3, h⟩ := vI_elim h
              obtain ⟨x4, e4, h⟩ := vI_elim h
              obtain ⟨x5, e5, h⟩ := vI_elim h
              refine J.sub ?_ (((((Sub.base _).upd e0).upd e3).upd e4).upd e5)
              clear e0 e3 e4 e5
              refine J_seq (fun σ w => vP (σ 0) fun x0 => vI .u64 (σ 3) fun x3 => vI .u64 (σ 4) fun x4 => vI .i64 (σ 5) fun x5 => ref01_Reader_Var.p9 (ref01_Reader_Var.l0 K k0) K x0 x3 x4 x5 w) ?_ ?_
              ·
                refine J_block ?_
                refine J_seq (fun σ w => vP (σ 0) fun x0 => vI .u64 (σ 3) fun x3 => vI .u64 (σ 4) fun x4 => vI .i64 (σ 5) fun x5 => ref01_Reader_Var.p5 (ref01_Reader_Var.l0 K k0) K x0 x3 x4 x5 w) ?_ ?_
                ·
                  exact sh_sound _ _ _ _ (Eq.mp (by kernel_rfl) h)
                · intro σ w h
                  obtain ⟨x0, e0, h⟩ := vP_elim h
                  obtain ⟨x3, e3, h⟩ := vI_elim h
                  obtain ⟨x4, e4, h⟩ := vI_elim h
                  obtain ⟨x5, e5, h⟩ := vI_elim h
                  refine J.sub ?_ (((((Sub.base _).upd e0).upd e3).upd e4).upd e5)
                  clear e0 e3 e4 e5
                  refine J_seq (fun σ w => vP (σ 0) fun x0 => vI .u64 (σ 3) fun x3 => vI .u64 (σ 4) fun x4 => vI .i64 (σ 5) fun x5 => vI .u8 (σ 6) fun x6 => ref01_Reader_Var.p6 (ref01_Reader_Var.l0 K k0) K x0 x3 x4 x5 x6 w) ?_ ?_
                  ·
                    exact sh_sound _ _ _ _ (Eq.mp (by kernel_rfl) h)
                  · intro σ w h
                    obtain ⟨x0, e0, h⟩ := vP_elim h
                    obtain ⟨x3, e3, h⟩ := vI_elim h
                    obtain ⟨x4, e4, h⟩ := vI_elim h
                    obtain ⟨x5, e5, h⟩ := vI_elim h
                    obtain ⟨x6, e6, h⟩ := vI_elim h
                    refine J.sub ?_ ((((((Sub.base _).upd e0).upd e3).upd e4).upd e5).upd e6)
                    clear e0 e3 e4 e5 e6
                    refine J_seq (fun σ w => vP (σ 0) fun x0 => vI .u64 (σ 3) fun x3 => vI .u64 (σ 4) fun x4 => vI .i64 (σ 5) fun x5 => vI .u8 (σ 6) fun x6 => ref01_Reader_Var.p8 (ref01_Reader_Var.l0 K k0) K x0 x3 x4 x5 x6 w) ?_ ?_
                    ·
                      refine J_seq (fun σ w => vP (σ 0) fun x0 => vI .u64 (σ 3) fun x3 => vI .u64 (σ 4) fun x4 => vI .i64 (σ 5) fun x5 => vI .u8 (σ 6) fun x6 => vB (σ 44) fun x44 => ref01_Reader_Var.p7 (ref01_Reader_Var.l0 K k0) K x0 x3 x4 x5 x6 x44 w) ?_ ?_
                      ·
                        exact sh_sound _ _ _ _ (Eq.mp (by kernel_rfl) h)
                      · intro σ w h
                        obtain ⟨x0, e0, h⟩ := vP_elim h
                        obtain ⟨x3, e3, h⟩ := vI_elim h
                        obtain ⟨x4, e4, h⟩ := vI_elim h
                        obtain ⟨x5, e5, h⟩ := vI_elim h
                        obtain ⟨x6, e6, h⟩ := vI_elim h
                        obtain ⟨x44, e44, h⟩ := vB_elim h
                        refine J.sub ?_ (((((((Sub.base _).upd e0).upd e3).upd e4).upd e5).upd e6).upd e44)
                        clear e0 e3 e4 e5 e6 e44
                        exact sh_sound _ _ _ _ (Eq.mp (by kernel_rfl) h)
                    · intro σ w h
                      obtain ⟨x0, e0, h⟩ := vP_elim h
                      obtain ⟨x3, e3, h⟩ := vI_elim h
                      obtain ⟨x4, e4, h⟩ := vI_elim h
                      obtain ⟨x5, e5, h⟩ := vI_elim h
                      obtain ⟨x6, e6, h⟩ := vI_elim h
                      refine J.sub ?_ ((((((Sub.base _).upd e0).upd e3).upd e4).upd e5).upd e6)
                      clear e0 e3 e4 e5 e6
                      exact sh_sound _ _ _ _ (Eq.mp (by kernel_rfl) h)
              · intro σ w h
                obtain ⟨x0, e0, h⟩ := vP_elim h
                obtain ⟨x3, e3, h⟩ := vI_elim h
                obtain ⟨x4, e4, h⟩ := vI_elim h
                obtain ⟨x5, e5, h⟩ := vI_elim h
                refine J.sub ?_ (((((Sub.base _).upd e0).upd e3).upd e4).upd e5)
                clear e0 e3 e4 e5
                exact sh_sound _ _ _ _ (Eq.mp (by kernel_rfl) h)

end Go.Proofs.Ytfigojigigkdmaa.F
