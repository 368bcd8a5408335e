/-
  Printed by a program: for each Go function a proposition that says what it comes to, and the proof that the code comes to it. No condition beyond what each theorem states.
-/
import Derived.Test.YtcpgflcbjcekeaaFa
set_option linter.unusedVariables false
set_option maxRecDepth 100000
namespace Go.Proofs.Ytcpgflcbjcekeaa.F
open Go Go.RowKit Go.Proofs.Ytcpgflcbjcekeaa Go.Proofs.Ytcpgflcbjcekeaa.Sh

/-! ### (*hayloft/hayloftref12.Table).Live: function 26 -/
abbrev ref12_Table_Live.p5 (L0 : Option Addr → Nat → Nat → Option Addr → Nat → Nat → Int → Int → World → Prop) (K : Value → World → Prop) (x3A : Option Addr) (x3n : Nat) (x3c : Nat) (x9A : Option Addr) (x9n : Nat) (x9c : Nat) (x10 : Int) (x11 : Int) (w : World) : Prop :=
  L0 x3A x3n x3c x9A x9n x9c x10 (IntKind.wrap .i64 (x11 + (1 : Int))) w
abbrev ref12_Table_Live.p4 (L0 : Option Addr → Nat → Nat → Option Addr → Nat → Nat → Int → Int → World → Prop) (K : Value → World → Prop) (x3A : Option Addr) (x3n : Nat) (x3c : Nat) (x9A : Option Addr) (x9n : Nat) (x9c : Nat) (x10 : Int) (x11 : Int) (w : World) : Prop :=
  (0 ≤ x11 ∧ x11 < ((x9n : Nat) : Int)) ∧ ∃ (a5 : Addr), x9A = some a5 ∧ ∃ (n6 : Int), w.cell? (a5.add (x11.toNat * 4)) = some (.int .i64 n6) ∧ ∃ (b7 : Bool), w.cell? ((a5.add (x11.toNat * 4)).add 1) = some (.bool b7) ∧ ∃ (n8 : Int), w.cell? ((a5.add (x11.toNat * 4)).add 2) = some (.int .i64 n8) ∧ ∃ (n9 : Int), w.cell? ((a5.add (x11.toNat * 4)).add 3) = some (.int .i64 n9) ∧ wlet (w.alloc (.cells #[.int .i64 0, .bool false, .int .i64 0, .int .i64 0] 33)) fun w10 => canStore w10 (⟨w.heap.size, 0, none⟩) ∧ wlet (w10.setCell (⟨w.heap.size, 0, none⟩) (.int .i64 n6)) fun w11 => canStore w11 (⟨w.heap.size, 1, none⟩) ∧ wlet (w11.setCell (⟨w.heap.size, 1, none⟩) (.bool b7)) fun w12 => canStore w12 (⟨w.heap.size, 2, none⟩) ∧ wlet (w12.setCell (⟨w.heap.size, 2, none⟩) (.int .i64 n8)) fun w13 => canStore w13 (⟨w.heap.size, 3, none⟩) ∧ wlet (w13.setCell (⟨w.heap.size, 3, none⟩) (.int .i64 n9)) fun w14 => ∃ (b15 : Bool), w14.cell? (⟨w.heap.size, 1, none⟩) = some (.bool b15) ∧ condP b15 (∃ (n16 : Int), w14.cell? (⟨w.heap.size, 0, none⟩) = some (.int .i64 n16) ∧ CallsE Try.prog 12 #[.int .i64 (IntKind.wrap .i64 (x11 + (1 : Int))), .int .i64 n16] w14 (fun v17 w18 => ∃ (n19 : Int), v17 = .int .u64 n19 ∧ wlet (w18.alloc (.cells #[.int .u64 n19] 25)) fun w20 => SemJ Try.prog (Builtin.append_ #[38, 38] 38 #[.slice x3A x3n x3c, .slice (some ⟨w18.heap.size, 0, none⟩) 1 1]) (fun v21 w22 => ∃ (A23 : Option Addr) (m24 : Nat) (c25 : Nat), v21 = .slice A23 m24 c25 ∧ ref12_Table_Live.p5 L0 K A23 m24 c25 x9A x9n x9c x10 x11 w22) w20)) (ref12_Table_Live.p5 L0 K x3A x3n x3c x9A x9n x9c x10 x11 w14)
abbrev ref12_Table_Live.p6 (K : Value → World → Prop) (x3A : Option Addr) (x3n : Nat) (x3c : Nat) (w : World) : Prop :=
  K (.slice x3A x3n x3c) w
abbrev ref12_Table_Live.p3 (L0 : Option Addr → Nat → Nat → Option Addr → Nat → Nat → Int → Int → World → Prop) (K : Value → World → Prop) (x3A : Option Addr) (x3n : Nat) (x3c : Nat) (x9A : Option Addr) (x9n : Nat) (x9c : Nat) (x10 : Int) (x11 : Int) (x12 : Bool) (w : World) : Prop :=
  condP x12 (ref12_Table_Live.p4 L0 K x3A x3n x3c x9A x9n x9c x10 x11 w) (ref12_Table_Live.p6 K x3A x3n x3c w)
abbrev ref12_Table_Live.b0 (L0 : Option Addr → Nat → Nat → Option Addr → Nat → Nat → Int → Int → World → Prop) (K : Value → World → Prop) (x3A : Option Addr) (x3n : Nat) (x3c : Nat) (x9A : Option Addr) (x9n : Nat) (x9c : Nat) (x10 : Int) (x11 : Int) (w : World) : Prop :=
  ref12_Table_Live.p3 L0 K x3A x3n x3c x9A x9n x9c x10 x11 (decide (x11 < x10)) w
def ref12_Table_Live.l0 (K : Value → World → Prop) (k : Nat) : Option Addr → Nat → Nat → Option Addr → Nat → Nat → Int → Int → World → Prop :=
  Nat.rec (motive := fun _ => Option Addr → Nat → Nat → Option Addr → Nat → Nat → Int → Int → World → Prop) (fun _ _ _ _ _ _ _ _ _ => False) (fun _ ih => ref12_Table_Live.b0 ih K) k
theorem ref12_Table_Live.l0_succ (K : Value → World → Prop) (k : Nat) (x3A : Option Addr) (x3n : Nat) (x3c : Nat) (x9A : Option Addr) (x9n : Nat) (x9c : Nat) (x10 : Int) (x11 : Int) (w : World) : ref12_Table_Live.l0 K (k + 1) x3A x3n x3c x9A x9n x9c x10 x11 w = ref12_Table_Live.b0 (ref12_Table_Live.l0 K k) K x3A x3n x3c x9A x9n x9c x10 x11 w := rfl
abbrev ref12_Table_Live.p2 (K : Value → World → Prop) (x3A : Option Addr) (x3n : Nat) (x3c : Nat) (x9A : Option Addr) (x9n : Nat) (x9c : Nat) (x10 : Int) (x11 : Int) (w : World) : Prop :=
  ∃ k, ref12_Table_Live.l0 K k x3A x3n x3c x9A x9n x9c x10 x11 w
abbrev ref12_Table_Live.p1 (K : Value → World → Prop) (x0 : Option Addr) (x3A : Option Addr) (x3n : Nat) (x3c : Nat) (w : World) : Prop :=
  ∃ (a1 : Addr), x0 = some a1 ∧ ∃ (A2 : Option Addr) (m3 : Nat) (c4 : Nat), w.cell? a1 = some (.slice A2 m3 c4) ∧ ref12_Table_Live.p2 K x3A x3n x3c A2 m3 c4 ((m3 : Nat) : Int) 0 w
abbrev ref12_Table_Live.p0 (K : Value → World → Prop) (x0 : Option Addr) (w : World) : Prop :=
  ref12_Table_Live.p1 K x0 none 0 0 w
abbrev ref12_Table_Live.F (q0 : Option Addr) (K : Value → World → Prop) (w : World) : Prop :=
  ref12_Table_Live.p0 K q0 w
theorem ref12_Table_Live.ok {q0 : Option Addr} {K : Value → World → Prop} {w : World} (h : ref12_Table_Live.F q0 K w) :
    CallsE Try.prog 26 #[.pointer q0] w K := by
  refine calls_of_J (n := 28) (rs := [.tmp 2]) Try.func26 rfl rfl rfl rfl ?_
  refine J_seq (fun σ w => vP (σ 0) fun x0 => ref12_Table_Live.p0 K x0 w) ?_ ?_
  ·
    exact sh_sound _ _ _ _ (Eq.mp (by kernel_rfl) h)
  · intro σ w h
    obtain ⟨x0, e0, h⟩ := vP_elim h
    refine J.sub ?_ ((Sub.base _).upd e0)
    clear e0
    refine J_seq (fun σ w => vP (σ 0) fun x0 => vS (σ 3) fun x3A x3n x3c => ref12_Table_Live.p1 K x0 x3A x3n x3c w) ?_ ?_
    ·
      exact sh_sound _ _ _ _ (Eq.mp (by kernel_rfl) h)
    · intro σ w h
      obtain ⟨x0, e0, h⟩ := vP_elim h
      obtain ⟨x3A, x3n, x3c, e3, h⟩ := vS_elim h
      refine J.sub ?_ (((Sub.base _).upd e0).upd e3)
      clear e0 e3
      refine J_seq (fun σ w => vS (σ 3) fun x3A x3n x3c => ref12_Table_Live.p6 K x3A x3n x3c w) ?_ ?_
      ·
        refine J_seq (fun σ w => vS (σ 3) fun x3A x3n x3c => vS (σ 9) fun x9A x9n x9c => vI .i64 (σ 10) fun x10 => vI .i64 (σ 11) fun x11 => ref12_Table_Live.p2 K x3A x3n x3c x9A x9n x9c x10 x11 w) ?_ ?_
        ·
          exact sh_sound _ _ _ _ (Eq.mp (by kernel_rfl) h)
        · intro σ w h
          obtain ⟨x3A, x3n, x3c, e3, h⟩ := vS_elim h
          obtain ⟨x9A, x9n, x9c, e9, h⟩ := vS_elim h
          obtain ⟨x10, e10, h⟩ := vI_elim h
          obtain ⟨x11, e11, h⟩ := vI_elim h
          refine J.sub ?_ (((((Sub.base _).upd e3).upd e9).upd e10).upd e11)
          clear e3 e9 e10 e11
          refine J_block ?_
          refine J_loop (fun k σ w => vS (σ 3) fun x3A x3n x3c => vS (σ 9) fun x9A x9n x9c => vI .i64 (σ 10) fun x10 => vI .i64 (σ 11) fun x11 => ref12_Table_Live.l0 K k x3A x3n x3c x9A x9n x9c x10 x11 w) (Eq.mp (by kernel_rfl) h) ?_ ?_
          · intro σ w h
            obtain ⟨x3A, x3n, x3c, e3, h⟩ := vS_elim h
            obtain ⟨x9A, x9n, x9c, e9, h⟩ := vS_elim h
            obtain ⟨x10, e10, h⟩ := vI_elim h
            obtain ⟨x11, e11, h⟩ := vI_elim h
            exact h
          · intro k0 σ w h
            obtain ⟨x3A, x3n, x3c, e3, h⟩ := vS_elim h
            obtain ⟨x9A, x9n, x9c, e9, h⟩ := vS_elim h
            obtain ⟨x10, e10, h⟩ := vI_elim h
            obtain ⟨x11, e11, h⟩ := vI_elim h
            refine J.sub ?_ (((((Sub.base _).upd e3).upd e9).upd e10).upd e11)
            clear e3 e9 e10 e11
            refine J_seq (fun σ w => vS (σ 3) fun x3A x3n x3c => vS (σ 9) fun x9A x9n x9c => vI .i64 (σ 10) fun x10 => vI .i64 (σ 11) fun x11 => vB (σ 12) fun x12 => ref12_Table_Live.p3 (ref12_Table_Live.l0 K k0) K x3A x3n x3c x9A x9n x9c x10 x11 x12 w) ?_ ?_
            ·
              exact sh_sound _ _ _ _ (Eq.mp (by kernel_rfl) h)
            · intro σ w h
              obtain ⟨x3A, x3n, x3c, e3, h⟩ := vS_elim h
              obtain ⟨x9A, x9n, x9c, e9, h⟩ := vS_elim h
              obtain ⟨x10, e10, h⟩ := vI_elim h
              obtain ⟨x11, e11, h⟩ := vI_elim h
              obtain ⟨x12, e12, h⟩ := vB_elim h
              refine J.sub ?_ ((((((Sub.base _).upd e3).upd e9).upd e10).upd e11).upd e12)
              clear e3 e9 e10 e11 e12
              refine J_seq (fun σ w => vS (σ 3) fun x3A x3n x3c => vS (σ 9) fun x9A x9n x9c => vI .i64 (σ 10) fun x10 => vI .i64 (σ 11) fun x11 => ref12_Table_Live.p4 (ref12_Table_Live.l0 K k0) K x3A x3n x3c x9A x9n x9c x10 x11 w) ?_ ?_
              ·
                exact sh_sound _ _ _ _ (Eq.mp (by kernel_rfl) h)
              · intro σ w h
                obtain ⟨x3A, x3n, x3c, e3, h⟩ := vS_elim h
                obtain ⟨x9A, x9n, x9c, e9, h⟩ := vS_elim h
                obtain ⟨x10, e10, h⟩ := vI_elim h
                obtain ⟨x11, e11, h⟩ := vI_elim h
                refine J.sub ?_ (((((Sub.base _).upd e3).upd e9).upd e10).upd e11)
                clear e3 e9 e10 e11
                refine J_seq (fun σ w => vS (σ 3) fun x3A x3n x3c => vS (σ 9) fun x9A x9n x9c => vI .i64 (σ 10) fun x10 => vI .i64 (σ 11) fun x11 => ref12_Table_Live.p5 (ref12_Table_Live.l0 K k0) K x3A x3n x3c x9A x9n x9c x10 x11 w) ?_ ?_
                ·
                  exact sh_sound _ _ _ _ (Eq.mp (by kernel_rfl) h)
                · intro σ w h
                  obtain ⟨x3A, x3n, x3c, e3, h⟩ := vS_elim h
                  obtain ⟨x9A, x9n, x9c, e9, h⟩ := vS_elim h
                  obtain ⟨x10, e10, h⟩ := vI_elim h
                  obtain ⟨x11, e11, h⟩ := vI_elim h
                  refine J.sub ?_ (((((Sub.base _).upd e3).upd e9).upd e10).upd e11)
                  clear e3 e9 e10 e11
                  exact sh_sound _ _ _ _ (Eq.mp (by kernel_rfl) h)
      · intro σ w h
        obtain ⟨x3A, x3n, x3c, e3, h⟩ := vS_elim h
        refine J.sub ?_ ((Sub.base _).upd e3)
        clear e3
        exact sh_sound _ _ _ _ (Eq.mp (by kernel_rfl) h)

/-! ### hayloft/handle.right: function 27 -/
abbrev handle_right.p2 (K : Value → World → Prop) (x2 : Bool) (w : World) : Prop :=
  K (.bool x2) w
abbrev handle_right.p4 (K : Value → World → Prop) (x2 : Bool) (w : World) : Prop :=
  K (.bool x2) w
abbrev handle_right.p3 (K : Value → World → Prop) (x1 : Addr) (w : World) : Prop :=
  ∃ (n5 : Int), w.cell? x1 = some (.int .i64 n5) ∧ condP (decide ((0 : Int) ≤ n5)) (∃ (n6 : Int), w.cell? x1 = some (.int .i64 n6) ∧ condP (decide (n6 ≤ (65535 : Int))) (∃ (n7 : Int), w.cell? x1 = some (.int .i64 n7) ∧ ∃ (b8 : Bool), w.cell? (x1.add 1) = some (.bool b8) ∧ ∃ (n9 : Int), w.cell? (x1.add 2) = some (.int .i64 n9) ∧ ∃ (n10 : Int), w.cell? (x1.add 3) = some (.int .i64 n10) ∧ ∃ (n11 : Int), w.cell? x1 = some (.int .i64 n11) ∧ ∃ (b12 : Bool), aggEq Try.prog .eql 33 (.agg #[.int .i64 n7, .bool b8, .int .i64 n9, .int .i64 n10]) (.agg #[.int .i64 n11, .bool false, .int .i64 0, .int .i64 0]) (.bool b12) ∧ handle_right.p4 K b12 w) (handle_right.p4 K false w)) (handle_right.p4 K false w)
abbrev handle_right.p1 (K : Value → World → Prop) (x1 : Addr) (x4 : Bool) (w : World) : Prop :=
  condP x4 (∃ (n3 : Int), w.cell? x1 = some (.int .i64 n3) ∧ condP (decide ((1 : Int) ≤ n3)) (∃ (n4 : Int), w.cell? x1 = some (.int .i64 n4) ∧ handle_right.p2 K (decide (n4 ≤ (65535 : Int))) w) (handle_right.p2 K false w)) (handle_right.p3 K x1 w)
abbrev handle_right.p0 (K : Value → World → Prop) (x1 : Addr) (w : World) : Prop :=
  ∃ (b2 : Bool), w.cell? (x1.add 1) = some (.bool b2) ∧ handle_right.p1 K x1 b2 w
abbrev handle_right.F (q0_0 : Int) (q0_1 : Bool) (q0_2 : Int) (q0_3 : Int) (K : Value → World → Prop) (w : World) : Prop :=
  wlet (w.alloc (.cells #[.int .i64 q0_0, .bool q0_1, .int .i64 q0_2, .int .i64 q0_3] 33)) fun w1 => handle_right.p0 K (⟨w.heap.size, 0, none⟩) w1
theorem handle_right.ok {q0_0 : Int} {q0_1 : Bool} {q0_2 : Int} {q0_3 : Int} {K : Value → World → Prop} {w : World} (h : handle_right.F q0_0 q0_1 q0_2 q0_3 K w) :
    CallsE Try.prog 27 #[.agg #[.int .i64 q0_0, .bool q0_1, .int .i64 q0_2, .int .i64 q0_3]] w K := by
  refine calls_of_J (n := 28) (rs := [.tmp 2]) Try.func27 rfl rfl rfl rfl ?_
  refine J_seq (fun σ w => vPa (σ 1) fun x1 => handle_right.p0 K x1 w) ?_ ?_
  ·
    exact sh_sound _ _ _ _ (Eq.mp (by kernel_rfl) h)
  · intro σ w h
    obtain ⟨x1, e1, h⟩ := vPa_elim h
    refine J.sub ?_ ((Sub.base _).upd e1)
    clear e1
    refine J_seq (fun σ w => vPa (σ 1) fun x1 => handle_right.p3 K x1 w) ?_ ?_
    ·
      refine J_seq (fun σ w => vPa (σ 1) fun x1 => vB (σ 4) fun x4 => handle_right.p1 K x1 x4 w) ?_ ?_
      ·
        exact sh_sound _ _ _ _ (Eq.mp (by kernel_rfl) h)
      · intro σ w h
        obtain ⟨x1, e1, h⟩ := vPa_elim h
        obtain ⟨x4, e4, h⟩ := vB_elim h
        refine J.sub ?_ (((Sub.base _).upd e1).upd e4)
        clear e1 e4
        refine J_cond' h (by kernel_rfl) (fun h => ?_) (fun h => ?_)
        ·
          refine J_seq (fun σ w => vB (σ 2) fun x2 => handle_right.p2 K x2 w) ?_ ?_
          ·
            exact sh_sound _ _ _ _ (Eq.mp (by kernel_rfl) h)
          · intro σ w h
            obtain ⟨x2, e2, h⟩ := vB_elim h
            refine J.sub ?_ ((Sub.base _).upd e2)
            clear e2
            exact sh_sound _ _ _ _ (Eq.mp (by kernel_rfl) h)
        ·
          exact sh_sound _ _ _ _ (Eq.mp (by kernel_rfl) h)
    · intro σ w h
      obtain ⟨x1, e1, h⟩ := vPa_elim h
      refine J.sub ?_ ((Sub.base _).upd e1)
      clear e1
      refine J_seq (fun σ w => vB (σ 2) fun x2 => handle_right.p4 K x2 w) ?_ ?_
      ·
        exact sh_sound _ _ _ _ (Eq.mp (by kernel_rfl) h)
      · intro σ w h
        obtain ⟨x2, e2, h⟩ := vB_elim h
        refine J.sub ?_ ((Sub.base _).upd e2)
        clear e2
        exact sh_sound _ _ _ _ (Eq.mp (by kernel_rfl) h)

/-! ### (*hayloft/handle.Table).row: function 28 -/
abbrev handle_Table_row.p7 (K : Value → World → Prop) (x7 : Addr) (w : World) : Prop :=
  K (.tuple #[.pointer (some x7), .int .i64 0]) w
abbrev handle_Table_row.p6 (K : Value → World → Prop) (x7 : Addr) (x45 : Bool) (w : World) : Prop :=
  condP x45 (K (.tuple #[.pointer none, .int .i64 12]) w) (handle_Table_row.p7 K x7 w)
abbrev handle_Table_row.p5 (K : Value → World → Prop) (x1 : Int) (x7 : Addr) (w : World) : Prop :=
  ∃ (a6 : Addr), some x7 = some a6 ∧ ∃ (b7 : Bool), w.cell? (a6.add 1) = some (.bool b7) ∧ condP (!b7) (handle_Table_row.p6 K x7 true w) (0 ≤ (16 : Int) ∧ ∃ (a8 : Addr), some x7 = some a8 ∧ ∃ (n9 : Int), w.cell? a8 = some (.int .i64 n9) ∧ handle_Table_row.p6 K x7 ((ishr .u64 x1 16) != (IntKind.wrap .u64 n9)) w)
abbrev handle_Table_row.p4 (K : Value → World → Prop) (x0 : Option Addr) (x1 : Int) (x6 : Int) (w : World) : Prop :=
  ∃ (a1 : Addr), x0 = some a1 ∧ ∃ (A2 : Option Addr) (m3 : Nat) (c4 : Nat), w.cell? (a1.add 1) = some (.slice A2 m3 c4) ∧ (0 ≤ (IntKind.wrap .u64 (x6 - (1 : Int))) ∧ (IntKind.wrap .u64 (x6 - (1 : Int))) < ((m3 : Nat) : Int)) ∧ ∃ (a5 : Addr), A2 = some a5 ∧ handle_Table_row.p5 K x1 (a5.add ((IntKind.wrap .u64 (x6 - (1 : Int))).toNat * 4)) w
abbrev handle_Table_row.p3 (K : Value → World → Prop) (x0 : Option Addr) (x1 : Int) (x6 : Int) (x23 : Bool) (w : World) : Prop :=
  condP x23 (K (.tuple #[.pointer none, .int .i64 12]) w) (handle_Table_row.p4 K x0 x1 x6 w)
abbrev handle_Table_row.p2 (K : Value → World → Prop) (x0 : Option Addr) (x1 : Int) (x6 : Int) (w : World) : Prop :=
  condP (x6 == (0 : Int)) (handle_Table_row.p3 K x0 x1 x6 true w) (∃ (a10 : Addr), x0 = some a10 ∧ ∃ (A11 : Option Addr) (m12 : Nat) (c13 : Nat), w.cell? (a10.add 1) = some (.slice A11 m12 c13) ∧ handle_Table_row.p3 K x0 x1 x6 (decide ((IntKind.wrap .u64 ((m12 : Nat) : Int)) < x6)) w)
abbrev handle_Table_row.p1 (K : Value → World → Prop) (x0 : Option Addr) (x1 : Int) (w : World) : Prop :=
  handle_Table_row.p2 K x0 x1 (ibits .and .u64 x1 65535) w
abbrev handle_Table_row.p0 (K : Value → World → Prop) (x0 : Option Addr) (x1 : Int) (w : World) : Prop :=
  condP x0.isNone (K (.tuple #[.pointer none, .int .i64 1]) w) (handle_Table_row.p1 K x0 x1 w)
abbrev handle_Table_row.F (q0 : Option Addr) (q1 : Int) (K : Value → World → Prop) (w : World) : Prop :=
  handle_Table_row.p0 K q0 q1 w
theorem handle_Table_row.ok {q0 : Option Addr} {q1 : Int} {K : Value → World → Prop} {w : World} (h : handle_Table_row.F q0 q1 K w) :
    CallsE Try.prog 28 #[.pointer q0, .int .u64 q1] w K := by
  refine calls_of_J (n := 47) (rs := [.tmp 4, .tmp 5]) Try.func28 rfl rfl rfl rfl ?_
  refine J_seq (fun σ w => vP (σ 0) fun x0 => vI .u64 (σ 1) fun x1 => handle_Table_row.p0 K x0 x1 w) ?_ ?_
  ·
    exact sh_sound _ _ _ _ (Eq.mp (by kernel_rfl) h)
  · intro σ w h
    obtain ⟨x0, e0, h⟩ := vP_elim h
    obtain ⟨x1, e1, h⟩ := vI_elim h
    refine J.sub ?_ (((Sub.base _).upd e0).upd e1)
    clear e0 e1
    refine J_seq (fun σ w => vP (σ 0) fun x0 => vI .u64 (σ 1) fun x1 => handle_Table_row.p1 K x0 x1 w) ?_ ?_
    ·
      exact sh_sound _ _ _ _ (Eq.mp (by kernel_rfl) h)
    · intro σ w h
      obtain ⟨x0, e0, h⟩ := vP_elim h
      obtain ⟨x1, e1, h⟩ := vI_elim h
      refine J.sub ?_ (((Sub.base _).upd e0).upd e1)
      clear e0 e1
      refine J_seq (fun σ w => vP (σ 0) fun x0 => vI .u64 (σ 1) fun x1 => vI .u64 (σ 6) fun x6 => handle_Table_row.p2 K x0 x1 x6 w) ?_ ?_
      ·
        exact sh_sound _ _ _ _ (Eq.mp (by kernel_rfl) h)
      · intro σ w h
        obtain ⟨x0, e0, h⟩ := vP_elim h
        obtain ⟨x1, e1, h⟩ := vI_elim h
        obtain ⟨x6, e6, h⟩ := vI_elim h
        refine J.sub ?_ ((((Sub.base _).upd e0).upd e1).upd e6)
        clear e0 e1 e6
        refine J_seq (fun σ w => vP (σ 0) fun x0 => vI .u64 (σ 1) fun x1 => vI .u64 (σ 6) fun x6 => handle_Table_row.p4 K x0 x1 x6 w) ?_ ?_
        ·
          refine J_seq (fun σ w => vP (σ 0) fun x0 => vI .u64 (σ 1) fun x1 => vI .u64 (σ 6) fun x6 => vB (σ 23) fun x23 => handle_Table_row.p3 K x0 x1 x6 x23 w) ?_ ?_
          ·
            exact sh_sound _ _ _ _ (Eq.mp (by kernel_rfl) h)
          · intro σ w h
            obtain ⟨x0, e0, h⟩ := vP_elim h
            obtain ⟨x1, e1, h⟩ := vI_elim h
            obtain ⟨x6, e6, h⟩ := vI_elim h
            obtain ⟨x23, e23, h⟩ := vB_elim h
            refine J.sub ?_ (((((Sub.base _).upd e0).upd e1).upd e6).upd e23)
            clear e0 e1 e6 e23
            exact sh_sound _ _ _ _ (Eq.mp (by kernel_rfl) h)
        · intro σ w h
          obtain ⟨x0, e0, h⟩ := vP_elim h
          obtain ⟨x1, e1, h⟩ := vI_elim h
          obtain ⟨x6, e6, h⟩ := vI_elim h
          refine J.sub ?_ ((((Sub.base _).upd e0).upd e1).upd e6)
          clear e0 e1 e6
          refine J_seq (fun σ w => vI .u64 (σ 1) fun x1 => vPa (σ 7) fun x7 => handle_Table_row.p5 K x1 x7 w) ?_ ?_
          ·
            exact sh_sound _ _ _ _ (Eq.mp (by kernel_rfl) h)
          · intro σ w h
            obtain ⟨x1, e1, h⟩ := vI_elim h
            obtain ⟨x7, e7, h⟩ := vPa_elim h
            refine J.sub ?_ (((Sub.base _).upd e1).upd e7)
            clear e1 e7
            refine J_seq (fun σ w => vPa (σ 7) fun x7 => handle_Table_row.p7 K x7 w) ?_ ?_
            ·
              refine J_seq (fun σ w => vPa (σ 7) fun x7 => vB (σ 45) fun x45 => handle_Table_row.p6 K x7 x45 w) ?_ ?_
              ·
                exact sh_sound _ _ _ _ (Eq.mp (by kernel_rfl) h)
              · intro σ w h
                obtain ⟨x7, e7, h⟩ := vPa_elim h
                obtain ⟨x45, e45, h⟩ := vB_elim h
                refine J.sub ?_ (((Sub.base _).upd e7).upd e45)
                clear e7 e45
                exact sh_sound _ _ _ _ (Eq.mp (by kernel_rfl) h)
            · intro σ w h
              obtain ⟨x7, e7, h⟩ := vPa_elim h
              refine J.sub ?_ ((Sub.base _).upd e7)
              clear e7
              exact sh_sound _ _ _ _ (Eq.mp (by kernel_rfl) h)

/-! ### (*hayloft/handle.Table).next: function 29 -/
abbrev handle_Table_next.p6 (L0 : Option Addr → Option Addr → Nat → Nat → Int → Int → World → Prop) (K : Value → World → Prop) (x0 : Option Addr) (x8A : Option Addr) (x8n : Nat) (x8c : Nat) (x9 : Int) (x10 : Int) (w : World) : Prop :=
  L0 x0 x8A x8n x8c x9 (IntKind.wrap .i64 (x10 + (1 : Int))) w
abbrev handle_Table_next.p5 (L0 : Option Addr → Option Addr → Nat → Nat → Int → Int → World → Prop) (K : Value → World → Prop) (x0 : Option Addr) (x3 : Int) (x8A : Option Addr) (x8n : Nat) (x8c : Nat) (x9 : Int) (x10 : Int) (x22 : Bool) (w : World) : Prop :=
  condP x22 (K (.int .i64 x3) w) (handle_Table_next.p6 L0 K x0 x8A x8n x8c x9 x10 w)
abbrev handle_Table_next.p4 (L0 : Option Addr → Option Addr → Nat → Nat → Int → Int → World → Prop) (K : Value → World → Prop) (x0 : Option Addr) (x3 : Int) (x4 : Addr) (x8A : Option Addr) (x8n : Nat) (x8c : Nat) (x9 : Int) (x10 : Int) (w : World) : Prop :=
  ∃ (b15 : Bool), w.cell? (x4.add 1) = some (.bool b15) ∧ condP (!b15) (∃ (n16 : Int), w.cell? x4 = some (.int .i64 n16) ∧ handle_Table_next.p5 L0 K x0 x3 x8A x8n x8c x9 x10 (decide (n16 < (65535 : Int))) w) (handle_Table_next.p5 L0 K x0 x3 x8A x8n x8c x9 x10 false w)
abbrev handle_Table_next.p3 (L0 : Option Addr → Option Addr → Nat → Nat → Int → Int → World → Prop) (K : Value → World → Prop) (x0 : Option Addr) (x8A : Option Addr) (x8n : Nat) (x8c : Nat) (x9 : Int) (x10 : Int) (w : World) : Prop :=
  (0 ≤ x10 ∧ x10 < ((x8n : Nat) : Int)) ∧ ∃ (a5 : Addr), x8A = some a5 ∧ ∃ (n6 : Int), w.cell? (a5.add (x10.toNat * 4)) = some (.int .i64 n6) ∧ ∃ (b7 : Bool), w.cell? ((a5.add (x10.toNat * 4)).add 1) = some (.bool b7) ∧ ∃ (n8 : Int), w.cell? ((a5.add (x10.toNat * 4)).add 2) = some (.int .i64 n8) ∧ ∃ (n9 : Int), w.cell? ((a5.add (x10.toNat * 4)).add 3) = some (.int .i64 n9) ∧ wlet (w.alloc (.cells #[.int .i64 0, .bool false, .int .i64 0, .int .i64 0] 33)) fun w10 => canStore w10 (⟨w.heap.size, 0, none⟩) ∧ wlet (w10.setCell (⟨w.heap.size, 0, none⟩) (.int .i64 n6)) fun w11 => canStore w11 (⟨w.heap.size, 1, none⟩) ∧ wlet (w11.setCell (⟨w.heap.size, 1, none⟩) (.bool b7)) fun w12 => canStore w12 (⟨w.heap.size, 2, none⟩) ∧ wlet (w12.setCell (⟨w.heap.size, 2, none⟩) (.int .i64 n8)) fun w13 => canStore w13 (⟨w.heap.size, 3, none⟩) ∧ wlet (w13.setCell (⟨w.heap.size, 3, none⟩) (.int .i64 n9)) fun w14 => handle_Table_next.p4 L0 K x0 x10 (⟨w.heap.size, 0, none⟩) x8A x8n x8c x9 x10 w14
abbrev handle_Table_next.p7 (K : Value → World → Prop) (x0 : Option Addr) (w : World) : Prop :=
  ∃ (a17 : Addr), x0 = some a17 ∧ ∃ (A18 : Option Addr) (m19 : Nat) (c20 : Nat), w.cell? (a17.add 1) = some (.slice A18 m19 c20) ∧ ∃ (a21 : Addr), x0 = some a21 ∧ ∃ (n22 : Int), w.cell? a21 = some (.int .i64 n22) ∧ condP (decide (((m19 : Nat) : Int) < n22)) (∃ (a23 : Addr), x0 = some a23 ∧ ∃ (A24 : Option Addr) (m25 : Nat) (c26 : Nat), w.cell? (a23.add 1) = some (.slice A24 m25 c26) ∧ K (.int .i64 ((m25 : Nat) : Int)) w) (K (.int .i64 (-1)) w)
abbrev handle_Table_next.p2 (L0 : Option Addr → Option Addr → Nat → Nat → Int → Int → World → Prop) (K : Value → World → Prop) (x0 : Option Addr) (x8A : Option Addr) (x8n : Nat) (x8c : Nat) (x9 : Int) (x10 : Int) (x11 : Bool) (w : World) : Prop :=
  condP x11 (handle_Table_next.p3 L0 K x0 x8A x8n x8c x9 x10 w) (handle_Table_next.p7 K x0 w)
abbrev handle_Table_next.b0 (L0 : Option Addr → Option Addr → Nat → Nat → Int → Int → World → Prop) (K : Value → World → Prop) (x0 : Option Addr) (x8A : Option Addr) (x8n : Nat) (x8c : Nat) (x9 : Int) (x10 : Int) (w : World) : Prop :=
  handle_Table_next.p2 L0 K x0 x8A x8n x8c x9 x10 (decide (x10 < x9)) w
def handle_Table_next.l0 (K : Value → World → Prop) (k : Nat) : Option Addr → Option Addr → Nat → Nat → Int → Int → World → Prop :=
  Nat.rec (motive := fun _ => Option Addr → Option Addr → Nat → Nat → Int → Int → World → Prop) (fun _ _ _ _ _ _ _ => False) (fun _ ih => handle_Table_next.b0 ih K) k
theorem handle_Table_next.l0_succ (K : Value → World → Prop) (k : Nat) (x0 : Option Addr) (x8A : Option Addr) (x8n : Nat) (x8c : Nat) (x9 : Int) (x10 : Int) (w : World) : handle_Table_next.l0 K (k + 1) x0 x8A x8n x8c x9 x10 w = handle_Table_next.b0 (handle_Table_next.l0 K k) K x0 x8A x8n x8c x9 x10 w := rfl
abbrev handle_Table_next.p1 (K : Value → World → Prop) (x0 : Option Addr) (x8A : Option Addr) (x8n : Nat) (x8c : Nat) (x9 : Int) (x10 : Int) (w : World) : Prop :=
  ∃ k, handle_Table_next.l0 K k x0 x8A x8n x8c x9 x10 w
abbrev handle_Table_next.p0 (K : Value → World → Prop) (x0 : Option Addr) (w : World) : Prop :=
  ∃ (a1 : Addr), x0 = some a1 ∧ ∃ (A2 : Option Addr) (m3 : Nat) (c4 : Nat), w.cell? (a1.add 1) = some (.slice A2 m3 c4) ∧ handle_Table_next.p1 K x0 A2 m3 c4 ((m3 : Nat) : Int) 0 w
abbrev handle_Table_next.F (q0 : Option Addr) (K : Value → World → Prop) (w : World) : Prop :=
  handle_Table_next.p0 K q0 w
theorem handle_Table_next.ok {q0 : Option Addr} {K : Value → World → Prop} {w : World} (h : handle_Table_next.F q0 K w) :
    CallsE Try.prog 29 #[.pointer q0] w K := by
  refine calls_of_J (n := 40) (rs := [.tmp 2]) Try.func29 rfl rfl rfl rfl ?_
  refine J_seq (fun σ w => vP (σ 0) fun x0 => handle_Table_next.p0 K x0 w) ?_ ?_
  ·
    exact sh_sound _ _ _ _ (Eq.mp (by kernel_rfl) h)
  · intro σ w h
    obtain ⟨x0, e0, h⟩ := vP_elim h
    refine J.sub ?_ ((Sub.base _).upd e0)
    clear e0
    refine J_seq (fun σ w => vP (σ 0) fun x0 => handle_Table_next.p7 K x0 w) ?_ ?_
    ·
      refine J_seq (fun σ w => vP (σ 0) fun x0 => vS (σ 8) fun x8A x8n x8c => vI .i64 (σ 9) fun x9 => vI .i64 (σ 10) fun x10 => handle_Table_next.p1 K x0 x8A x8n x8c x9 x10 w) ?_ ?_
      ·
        exact sh_sound _ _ _ _ (Eq.mp (by kernel_rfl) h)
      · intro σ w h
        obtain ⟨x0, e0, h⟩ := vP_elim h
        obtain ⟨x8A, x8n, x8c, e8, h⟩ := vS_elim h
        obtain ⟨x9, e9, h⟩ := vI_elim h
        obtain ⟨x10, e10, h⟩ := vI_elim h
        refine J.sub ?_ (((((Sub.base _).upd e0).upd e8).upd e9).upd e10)
        clear e0 e8 e9 e10
        refine J_block ?_
        refine J_loop (fun k σ w => vP (σ 0) fun x0 => vS (σ 8) fun x8A x8n x8c => vI .i64 (σ 9) fun x9 => vI .i64 (σ 10) fun x10 => handle_Table_next.l0 K k x0 x8A x8n x8c x9 x10 w) (Eq.mp (by kernel_rfl) h) ?_ ?_
        · intro σ w h
          obtain ⟨x0, e0, h⟩ := vP_elim h
          obtain ⟨x8A, x8n, x8c, e8, h⟩ := vS_elim h
          obtain ⟨x9, e9, h⟩ := vI_elim h
          obtain ⟨x10, e10, h⟩ := vI_elim h
          exact h
        · intro k0 σ w h
          obtain ⟨x0, e0, h⟩ := vP_elim h
          obtain ⟨x8A, x8n, x8c, e8, h⟩ := vS_elim h
          obtain ⟨x9, e9, h⟩ := vI_elim h
          obtain ⟨x10, e10, h⟩ := vI_elim h
          refine J.sub ?_ (((((Sub.base _).upd e0).upd e8).upd e9).upd e10)
          clear e0 e8 e9 e10
          refine J_seq (fun σ w => vP (σ 0) fun x0 => vS (σ 8) fun x8A x8n x8c => vI .i64 (σ 9) fun x9 => vI .i64 (σ 10) fun x10 => vB (σ 11) fun x11 => handle_Table_next.p2 (handle_Table_next.l0 K k0) K x0 x8A x8n x8c x9 x10 x11 w) ?_ ?_
          ·
            exact sh_sound _ _ _ _ (Eq.mp (by kernel_rfl) h)
          · intro σ w h
            obtain ⟨x0, e0, h⟩ := vP_elim h
            obtain ⟨x8A, x8n, x8c, e8, h⟩ := vS_elim h
            obtain ⟨x9, e9, h⟩ := vI_elim h
            obtain ⟨x10, e10, h⟩ := vI_elim h
            obtain ⟨x11, e11, h⟩ := vB_elim h
            refine J.sub ?_ ((((((Sub.base _).upd e0).upd e8).upd e9).upd e10).upd e11)
            clear e0 e8 e9 e10 e11
            refine J_seq (fun σ w => vP (σ 0) fun x0 => vS (σ 8) fun x8A x8n x8c => vI .i64 (σ 9) fun x9 => vI .i64 (σ 10) fun x10 => handle_Table_next.p3 (handle_Table_next.l0 K k0) K x0 x8A x8n x8c x9 x10 w) ?_ ?_
            ·
              exact sh_sound _ _ _ _ (Eq.mp (by kernel_rfl) h)
            · intro σ w h
              obtain ⟨x0, e0, h⟩ := vP_elim h
              obtain ⟨x8A, x8n, x8c, e8, h⟩ := vS_elim h
              obtain ⟨x9, e9, h⟩ := vI_elim h
              obtain ⟨x10, e10, h⟩ := vI_elim h
              refine J.sub ?_ (((((Sub.base _).upd e0).upd e8).upd e9).upd e10)
              clear e0 e8 e9 e10
              refine J_seq (fun σ w => vP (σ 0) fun x0 => vS (σ 8) fun x8A x8n x8c => vI .i64 (σ 9) fun x9 => vI .i64 (σ 10) fun x10 => handle_Table_next.p6 (handle_Table_next.l0 K k0) K x0 x8A x8n x8c x9 x10 w) ?_ ?_
              ·
                refine J_block ?_
                refine J_seq (fun σ w => vP (σ 0) fun x0 => vI .i64 (σ 3) fun x3 => vPa (σ 4) fun x4 => vS (σ 8) fun x8A x8n x8c => vI .i64 (σ 9) fun x9 => vI .i64 (σ 10) fun x10 => handle_Table_next.p4 (handle_Table_next.l0 K k0) K x0 x3 x4 x8A x8n x8c x9 x10 w) ?_ ?_
                ·
                  exact sh_sound _ _ _ _ (Eq.mp (by kernel_rfl) h)
                · intro σ w h
                  obtain ⟨x0, e0, h⟩ := vP_elim h
                  obtain ⟨x3, e3, h⟩ := vI_elim h
                  obtain ⟨x4, e4, h⟩ := vPa_elim h
                  obtain ⟨x8A, x8n, x8c, e8, h⟩ := vS_elim h
                  obtain ⟨x9, e9, h⟩ := vI_elim h
                  obtain ⟨x10, e10, h⟩ := vI_elim h
                  refine J.sub ?_ (((((((Sub.base _).upd e0).upd e3).upd e4).upd e8).upd e9).upd e10)
                  clear e0 e3 e4 e8 e9 e10
                  refine J_seq (fun σ w => vP (σ 0) fun x0 => vI .i64 (σ 3) fun x3 => vS (σ 8) fun x8A x8n x8c => vI .i64 (σ 9) fun x9 => vI .i64 (σ 10) fun x10 => vB (σ 22) fun x22 => handle_Table_next.p5 (handle_Table_next.l0 K k0) K x0 x3 x8A x8n x8c x9 x10 x22 w) ?_ ?_
                  ·
                    exact sh_sound _ _ _ _ (Eq.mp (by kernel_rfl) h)
                  · intro σ w h
                    obtain ⟨x0, e0, h⟩ := vP_elim h
                    obtain ⟨x3, e3, h⟩ := vI_elim h
                    obtain ⟨x8A, x8n, x8c, e8, h⟩ := vS_elim h
                    obtain ⟨x9, e9, h⟩ := vI_elim h
                    obtain ⟨x10, e10, h⟩ := vI_elim h
                    obtain ⟨x22, e22, h⟩ := vB_elim h
                    refine J.sub ?_ (((((((Sub.base _).upd e0).upd e3).upd e8).upd e9).upd e10).upd e22)
                    clear e0 e3 e8 e9 e10 e22
                    exact sh_sound _ _ _ _ (Eq.mp (by kernel_rfl) h)
              · intro σ w h
                obtain ⟨x0, e0, h⟩ := vP_elim h
                obtain ⟨x8A, x8n, x8c, e8, h⟩ := vS_elim h
                obtain ⟨x9, e9, h⟩ := vI_elim h
                obtain ⟨x10, e10, h⟩ := vI_elim h
                refine J.sub ?_ (((((Sub.base _).upd e0).upd e8).upd e9).upd e10)
                clear e0 e8 e9 e10
                exact sh_sound _ _ _ _ (Eq.mp (by kernel_rfl) h)
    · intro σ w h
      obtain ⟨x0, e0, h⟩ := vP_elim h
      refine J.sub ?_ ((Sub.base _).upd e0)
      clear e0
      exact sh_sound _ _ _ _ (Eq.mp (by kernel_rfl) h)

/-! ### (*hayloft/hayloftref12.Table).Make: function 30 -/
abbrev ref12_Table_Make.p3 (K : Value → World → Prop) (x0 : Option Addr) (x8 : Int) (w : World) : Prop :=
  ∃ (a20 : Addr), x0 = some a20 ∧ ∃ (A21 : Option Addr) (m22 : Nat) (c23 : Nat), w.cell? a20 = some (.slice A21 m22 c23) ∧ (0 ≤ (IntKind.wrap .i64 (x8 - (1 : Int))) ∧ (IntKind.wrap .i64 (x8 - (1 : Int))) < ((m22 : Nat) : Int)) ∧ ∃ (a24 : Addr), A21 = some a24 ∧ ∃ (n25 : Int), w.cell? (a24.add ((IntKind.wrap .i64 (x8 - (1 : Int))).toNat * 4)) = some (.int .i64 n25) ∧ CallsE Try.prog 12 #[.int .i64 x8, .int .i64 n25] w (fun v26 w27 => ∃ (n28 : Int), v26 = .int .u64 n28 ∧ K (.tuple #[.int .u64 n28, .int .i64 0]) w27)
abbrev ref12_Table_Make.p2 (K : Value → World → Prop) (x0 : Option Addr) (x1 : Int) (x2 : Int) (x8 : Int) (w : World) : Prop :=
  ∃ (S4 : Array Obj → Prop), S4 w.heap ∧ ∃ (a5 : Addr), x0 = some a5 ∧ ∃ (a6 : Addr), x0 = some a6 ∧ ∃ (A7 : Option Addr) (m8 : Nat) (c9 : Nat), (∀ w' : World, S4 w'.heap → w'.cell? a5 = some (.slice A7 m8 c9)) ∧ ∃ (A10 : Option Addr) (m11 : Nat) (c12 : Nat), (∀ w' : World, S4 w'.heap → w'.cell? a6 = some (.slice A10 m11 c12)) ∧ (0 ≤ (IntKind.wrap .i64 (x8 - (1 : Int))) ∧ (IntKind.wrap .i64 (x8 - (1 : Int))) < ((m11 : Nat) : Int)) ∧ ∃ (a13 : Addr), A10 = some a13 ∧ ∃ (n14 : Int), (∀ w' : World, S4 w'.heap → w'.cell? (a13.add ((IntKind.wrap .i64 (x8 - (1 : Int))).toNat * 4)) = some (.int .i64 n14)) ∧ S4 w.heap ∧ (0 ≤ (IntKind.wrap .i64 (x8 - (1 : Int))) ∧ (IntKind.wrap .i64 (x8 - (1 : Int))) < ((m8 : Nat) : Int)) ∧ ∃ (a15 : Addr), A7 = some a15 ∧ canStore w (a15.add ((IntKind.wrap .i64 (x8 - (1 : Int))).toNat * 4)) ∧ wlet (w.setCell (a15.add ((IntKind.wrap .i64 (x8 - (1 : Int))).toNat * 4)) (.int .i64 (IntKind.wrap .i64 (n14 + (1 : Int))))) fun w16 => canStore w16 ((a15.add ((IntKind.wrap .i64 (x8 - (1 : Int))).toNat * 4)).add 1) ∧ wlet (w16.setCell ((a15.add ((IntKind.wrap .i64 (x8 - (1 : Int))).toNat * 4)).add 1) (.bool true)) fun w17 => canStore w17 ((a15.add ((IntKind.wrap .i64 (x8 - (1 : Int))).toNat * 4)).add 2) ∧ wlet (w17.setCell ((a15.add ((IntKind.wrap .i64 (x8 - (1 : Int))).toNat * 4)).add 2) (.int .i64 x1)) fun w18 => canStore w18 ((a15.add ((IntKind.wrap .i64 (x8 - (1 : Int))).toNat * 4)).add 3) ∧ wlet (w18.setCell ((a15.add ((IntKind.wrap .i64 (x8 - (1 : Int))).toNat * 4)).add 3) (.int .i64 x2)) fun w19 => ref12_Table_Make.p3 K x0 x8 w19
abbrev ref12_Table_Make.p1 (K : Value → World → Prop) (x0 : Option Addr) (x1 : Int) (x2 : Int) (x8 : Int) (w : World) : Prop :=
  condP (x8 == (0 : Int)) (K (.tuple #[.int .u64 0, .int .i64 7]) w) (ref12_Table_Make.p2 K x0 x1 x2 x8 w)
abbrev ref12_Table_Make.p0 (K : Value → World → Prop) (x0 : Option Addr) (x1 : Int) (x2 : Int) (w : World) : Prop :=
  CallsE Try.prog 37 #[.pointer x0] w (fun v1 w2 => ∃ (n3 : Int), v1 = .int .i64 n3 ∧ ref12_Table_Make.p1 K x0 x1 x2 n3 w2)
abbrev ref12_Table_Make.F (q0 : Option Addr) (q1 : Int) (q2 : Int) (K : Value → World → Prop) (w : World) : Prop :=
  ref12_Table_Make.p0 K q0 q1 q2 w
theorem ref12_Table_Make.ok {q0 : Option Addr} {q1 : Int} {q2 : Int} {K : Value → World → Prop} {w : World} (h : ref12_Table_Make.F q0 q1 q2 K w) :
    CallsE Try.prog 30 #[.pointer q0, .int .i64 q1, .int .i64 q2] w K := by
  refine calls_of_J (n := 44) (rs := [.tmp 6, .tmp 7]) Try.func30 rfl rfl rfl rfl ?_
  refine J_seq (fun σ w => vP (σ 0) fun x0 => vI .i64 (σ 1) fun x1 => vI .i64 (σ 2) fun x2 => ref12_Table_Make.p0 K x0 x1 x2 w) ?_ ?_
  ·
    exact sh_sound _ _ _ _ (Eq.mp (by kernel_rfl) h)
  · intro σ w h
    obtain ⟨x0, e0, h⟩ := vP_elim h
    obtain ⟨x1, e1, h⟩ := vI_elim h
    obtain ⟨x2, e2, h⟩ := vI_elim h
    refine J.sub ?_ ((((Sub.base _).upd e0).upd e1).upd e2)
    clear e0 e1 e2
    refine J_seq (fun σ w => vP (σ 0) fun x0 => vI .i64 (σ 1) fun x1 => vI .i64 (σ 2) fun x2 => vI .i64 (σ 8) fun x8 => ref12_Table_Make.p1 K x0 x1 x2 x8 w) ?_ ?_
    ·
      exact sh_sound _ _ _ _ (Eq.mp (by kernel_rfl) h)
    · intro σ w h
      obtain ⟨x0, e0, h⟩ := vP_elim h
      obtain ⟨x1, e1, h⟩ := vI_elim h
      obtain ⟨x2, e2, h⟩ := vI_elim h
      obtain ⟨x8, e8, h⟩ := vI_elim h
      refine J.sub ?_ (((((Sub.base _).upd e0).upd e1).upd e2).upd e8)
      clear e0 e1 e2 e8
      refine J_seq (fun σ w => vP (σ 0) fun x0 => vI .i64 (σ 1) fun x1 => vI .i64 (σ 2) fun x2 => vI .i64 (σ 8) fun x8 => ref12_Table_Make.p2 K x0 x1 x2 x8 w) ?_ ?_
      ·
        exact sh_sound _ _ _ _ (Eq.mp (by kernel_rfl) h)
      · intro σ w h
        obtain ⟨x0, e0, h⟩ := vP_elim h
        obtain ⟨x1, e1, h⟩ := vI_elim h
        obtain ⟨x2, e2, h⟩ := vI_elim h
        obtain ⟨x8, e8, h⟩ := vI_elim h
        refine J.sub ?_ (((((Sub.base _).upd e0).upd e1).upd e2).upd e8)
        clear e0 e1 e2 e8
        refine J_seq (fun σ w => vP (σ 0) fun x0 => vI .i64 (σ 8) fun x8 => ref12_Table_Make.p3 K x0 x8 w) ?_ ?_
        ·
          exact J_held [20] [(0, 0), (1, 0), (2, 0), (4, 0), (5, 0), (6, 0), (7, 0), (8, 0), (10, 0), (11, 0), (16, 0), (17, 0), (3, 1), (9, 1), (12, 0), (13, 0), (14, 1), (15, 0), (18, 2), (19, 0), (20, 3)] (by kernel_rfl) (Eq.mp (by kernel_rfl) h)
        · intro σ w h
          obtain ⟨x0, e0, h⟩ := vP_elim h
          obtain ⟨x8, e8, h⟩ := vI_elim h
          refine J.sub ?_ (((Sub.base _).upd e0).upd e8)
          clear e0 e8
          exact sh_sound _ _ _ _ (Eq.mp (by kernel_rfl) h)

/-! ### (*hayloft/hayloftref12.Table).Get: function 31 -/
abbrev ref12_Table_Get.F (q0 : Option Addr) (q1 : Int) (K : Value → World → Prop) (w : World) : Prop :=
  CallsE Try.prog 38 #[.pointer q0, .int .u64 q1] w (fun v1 w2 => ∃ (n3 : Int), v1 = .int .i64 n3 ∧ condP (n3 == (0 : Int)) (K (.tuple #[.int .i64 0, .int .i64 0, .int .i64 12]) w2) (∃ (a4 : Addr), q0 = some a4 ∧ ∃ (A5 : Option Addr) (m6 : Nat) (c7 : Nat), w2.cell? a4 = some (.slice A5 m6 c7) ∧ (0 ≤ (IntKind.wrap .i64 (n3 - (1 : Int))) ∧ (IntKind.wrap .i64 (n3 - (1 : Int))) < ((m6 : Nat) : Int)) ∧ ∃ (a8 : Addr), A5 = some a8 ∧ ∃ (n9 : Int), w2.cell? ((a8.add ((IntKind.wrap .i64 (n3 - (1 : Int))).toNat * 4)).add 2) = some (.int .i64 n9) ∧ ∃ (a10 : Addr), q0 = some a10 ∧ ∃ (A11 : Option Addr) (m12 : Nat) (c13 : Nat), w2.cell? a10 = some (.slice A11 m12 c13) ∧ (0 ≤ (IntKind.wrap .i64 (n3 - (1 : Int))) ∧ (IntKind.wrap .i64 (n3 - (1 : Int))) < ((m12 : Nat) : Int)) ∧ ∃ (a14 : Addr), A11 = some a14 ∧ ∃ (n15 : Int), w2.cell? ((a14.add ((IntKind.wrap .i64 (n3 - (1 : Int))).toNat * 4)).add 3) = some (.int .i64 n15) ∧ K (.tuple #[.int .i64 n9, .int .i64 n15, .int .i64 0]) w2))
theorem ref12_Table_Get.ok {q0 : Option Addr} {q1 : Int} {K : Value → World → Prop} {w : World} (h : ref12_Table_Get.F q0 q1 K w) :
    CallsE Try.prog 31 #[.pointer q0, .int .u64 q1] w K := by
  refine calls_of_J (n := 31) (rs := [.tmp 4, .tmp 5, .tmp 6]) Try.func31 rfl rfl rfl rfl ?_
  exact sh_sound _ _ _ _ (Eq.mp (by kernel_rfl) h)

/-! ### (*hayloft/hayloftref12.Table).Put: function 32 -/
abbrev ref12_Table_Put.F (q0 : Option Addr) (q1 : Int) (q2 : Int) (K : Value → World → Prop) (w : World) : Prop :=
  CallsE Try.prog 38 #[.pointer q0, .int .u64 q1] w (fun v1 w2 => ∃ (n3 : Int), v1 = .int .i64 n3 ∧ condP (n3 == (0 : Int)) (K (.int .i64 12) w2) (∃ (a4 : Addr), q0 = some a4 ∧ ∃ (A5 : Option Addr) (m6 : Nat) (c7 : Nat), w2.cell? a4 = some (.slice A5 m6 c7) ∧ (0 ≤ (IntKind.wrap .i64 (n3 - (1 : Int))) ∧ (IntKind.wrap .i64 (n3 - (1 : Int))) < ((m6 : Nat) : Int)) ∧ ∃ (a8 : Addr), A5 = some a8 ∧ canStore w2 ((a8.add ((IntKind.wrap .i64 (n3 - (1 : Int))).toNat * 4)).add 3) ∧ wlet (w2.setCell ((a8.add ((IntKind.wrap .i64 (n3 - (1 : Int))).toNat * 4)).add 3) (.int .i64 q2)) fun w9 => K (.int .i64 0) w9))
theorem ref12_Table_Put.ok {q0 : Option Addr} {q1 : Int} {q2 : Int} {K : Value → World → Prop} {w : World} (h : ref12_Table_Put.F q0 q1 q2 K w) :
    CallsE Try.prog 32 #[.pointer q0, .int .u64 q1, .int .i64 q2] w K := by
  refine calls_of_J (n := 22) (rs := [.tmp 6]) Try.func32 rfl rfl rfl rfl ?_
  exact sh_sound _ _ _ _ (Eq.mp (by kernel_rfl) h)

/-! ### (*hayloft/hayloftref12.Table).Drop: function 33 -/
abbrev ref12_Table_Drop.p3 (K : Value → World → Prop) (w : World) : Prop :=
  K (.int .i64 0) w
abbrev ref12_Table_Drop.p2 (K : Value → World → Prop) (x0 : Option Addr) (x5 : Int) (w : World) : Prop :=
  ∃ (S4 : Array Obj → Prop), S4 w.heap ∧ ∃ (a5 : Addr), x0 = some a5 ∧ ∃ (a6 : Addr), x0 = some a6 ∧ ∃ (A7 : Option Addr) (m8 : Nat) (c9 : Nat), (∀ w' : World, S4 w'.heap → w'.cell? a5 = some (.slice A7 m8 c9)) ∧ ∃ (A10 : Option Addr) (m11 : Nat) (c12 : Nat), (∀ w' : World, S4 w'.heap → w'.cell? a6 = some (.slice A10 m11 c12)) ∧ (0 ≤ (IntKind.wrap .i64 (x5 - (1 : Int))) ∧ (IntKind.wrap .i64 (x5 - (1 : Int))) < ((m11 : Nat) : Int)) ∧ ∃ (a13 : Addr), A10 = some a13 ∧ ∃ (n14 : Int), (∀ w' : World, S4 w'.heap → w'.cell? (a13.add ((IntKind.wrap .i64 (x5 - (1 : Int))).toNat * 4)) = some (.int .i64 n14)) ∧ S4 w.heap ∧ (0 ≤ (IntKind.wrap .i64 (x5 - (1 : Int))) ∧ (IntKind.wrap .i64 (x5 - (1 : Int))) < ((m8 : Nat) : Int)) ∧ ∃ (a15 : Addr), A7 = some a15 ∧ canStore w (a15.add ((IntKind.wrap .i64 (x5 - (1 : Int))).toNat * 4)) ∧ wlet (w.setCell (a15.add ((IntKind.wrap .i64 (x5 - (1 : Int))).toNat * 4)) (.int .i64 n14)) fun w16 => canStore w16 ((a15.add ((IntKind.wrap .i64 (x5 - (1 : Int))).toNat * 4)).add 1) ∧ wlet (w16.setCell ((a15.add ((IntKind.wrap .i64 (x5 - (1 : Int))).toNat * 4)).add 1) (.bool false)) fun w17 => canStore w17 ((a15.add ((IntKind.wrap .i64 (x5 - (1 : Int))).toNat * 4)).add 2) ∧ wlet (w17.setCell ((a15.add ((IntKind.wrap .i64 (x5 - (1 : Int))).toNat * 4)).add 2) (.int .i64 0)) fun w18 => canStore w18 ((a15.add ((IntKind.wrap .i64 (x5 - (1 : Int))).toNat * 4)).add 3) ∧ wlet (w18.setCell ((a15.add ((IntKind.wrap .i64 (x5 - (1 : Int))).toNat * 4)).add 3) (.int .i64 0)) fun w19 => ref12_Table_Drop.p3 K w19
abbrev ref12_Table_Drop.p1 (K : Value → World → Prop) (x0 : Option Addr) (x5 : Int) (w : World) : Prop :=
  condP (x5 == (0 : Int)) (K (.int .i64 12) w) (ref12_Table_Drop.p2 K x0 x5 w)
abbrev ref12_Table_Drop.p0 (K : Value → World → Prop) (x0 : Option Addr) (x1 : Int) (w : World) : Prop :=
  CallsE Try.prog 38 #[.pointer x0, .int .u64 x1] w (fun v1 w2 => ∃ (n3 : Int), v1 = .int .i64 n3 ∧ ref12_Table_Drop.p1 K x0 n3 w2)
abbrev ref12_Table_Drop.F (q0 : Option Addr) (q1 : Int) (K : Value → World → Prop) (w : World) : Prop :=
  ref12_Table_Drop.p0 K q0 q1 w
theorem ref12_Table_Drop.ok {q0 : Option Addr} {q1 : Int} {K : Value → World → Prop} {w : World} (h : ref12_Table_Drop.F q0 q1 K w) :
    CallsE Try.prog 33 #[.pointer q0, .int .u64 q1] w K := by
  refine calls_of_J (n := 28) (rs := [.tmp 4]) Try.func33 rfl rfl rfl rfl ?_
  refine J_seq (fun σ w => vP (σ 0) fun x0 => vI .u64 (σ 1) fun x1 => ref12_Table_Drop.p0 K x0 x1 w) ?_ ?_
  ·
    exact sh_sound _ _ _ _ (Eq.mp (by kernel_rfl) h)
  · intro σ w h
    obtain ⟨x0, e0, h⟩ := vP_elim h
    obtain ⟨x1, e1, h⟩ := vI_elim h
    refine J.sub ?_ (((Sub.base _).upd e0).upd e1)
    clear e0 e1
    refine J_seq (fun σ w => vP (σ 0) fun x0 => vI .i64 (σ 5) fun x5 => ref12_Table_Drop.p1 K x0 x5 w) ?_ ?_
    ·
      exact sh_sound _ _ _ _ (Eq.mp (by kernel_rfl) h)
    · intro σ w h
      obtain ⟨x0, e0, h⟩ := vP_elim h
      obtain ⟨x5, e5, h⟩ := vI_elim h
      refine J.sub ?_ (((Sub.base _).upd e0).upd e5)
      clear e0 e5
      refine J_seq (fun σ w => vP (σ 0) fun x0 => vI .i64 (σ 5) fun x5 => ref12_Table_Drop.p2 K x0 x5 w) ?_ ?_
      ·
        exact sh_sound _ _ _ _ (Eq.mp (by kernel_rfl) h)
      · intro σ w h
        obtain ⟨x0, e0, h⟩ := vP_elim h
        obtain ⟨x5, e5, h⟩ := vI_elim h
        refine J.sub ?_ (((Sub.base _).upd e0).upd e5)
        clear e0 e5
        refine J_seq (fun σ w => ref12_Table_Drop.p3 K w) ?_ ?_
        ·
          exact J_held [17] [(0, 0), (1, 0), (2, 0), (4, 0), (5, 0), (6, 0), (7, 0), (8, 0), (10, 0), (11, 0), (3, 1), (9, 1), (12, 0), (13, 0), (14, 1), (15, 2), (16, 0), (17, 3)] (by kernel_rfl) (Eq.mp (by kernel_rfl) h)
        · intro σ w h
          refine J.sub ?_ (Sub.base _)
          exact sh_sound _ _ _ _ (Eq.mp (by kernel_rfl) h)

/-! ### (*hayloft/hayloftref12.Table).Rows: function 34 -/
abbrev ref12_Table_Rows.p5 (L0 : Option Addr → Int → Option Addr → Nat → Nat → Int → Int → World → Prop) (K : Value → World → Prop) (x0 : Option Addr) (x3 : Int) (x9A : Option Addr) (x9n : Nat) (x9c : Nat) (x10 : Int) (x11 : Int) (w : World) : Prop :=
  L0 x0 x3 x9A x9n x9c x10 (IntKind.wrap .i64 (x11 + (1 : Int))) w
abbrev ref12_Table_Rows.p4 (L0 : Option Addr → Int → Option Addr → Nat → Nat → Int → Int → World → Prop) (K : Value → World → Prop) (x0 : Option Addr) (x3 : Int) (x9A : Option Addr) (x9n : Nat) (x9c : Nat) (x10 : Int) (x11 : Int) (w : World) : Prop :=
  (0 ≤ x11 ∧ x11 < ((x9n : Nat) : Int)) ∧ ∃ (a5 : Addr), x9A = some a5 ∧ ∃ (n6 : Int), w.cell? (a5.add (x11.toNat * 4)) = some (.int .i64 n6) ∧ ∃ (b7 : Bool), w.cell? ((a5.add (x11.toNat * 4)).add 1) = some (.bool b7) ∧ ∃ (n8 : Int), w.cell? ((a5.add (x11.toNat * 4)).add 2) = some (.int .i64 n8) ∧ ∃ (n9 : Int), w.cell? ((a5.add (x11.toNat * 4)).add 3) = some (.int .i64 n9) ∧ wlet (w.alloc (.cells #[.int .i64 0, .bool false, .int .i64 0, .int .i64 0] 33)) fun w10 => canStore w10 (⟨w.heap.size, 0, none⟩) ∧ wlet (w10.setCell (⟨w.heap.size, 0, none⟩) (.int .i64 n6)) fun w11 => canStore w11 (⟨w.heap.size, 1, none⟩) ∧ wlet (w11.setCell (⟨w.heap.size, 1, none⟩) (.bool b7)) fun w12 => canStore w12 (⟨w.heap.size, 2, none⟩) ∧ wlet (w12.setCell (⟨w.heap.size, 2, none⟩) (.int .i64 n8)) fun w13 => canStore w13 (⟨w.heap.size, 3, none⟩) ∧ wlet (w13.setCell (⟨w.heap.size, 3, none⟩) (.int .i64 n9)) fun w14 => ∃ (n15 : Int), w14.cell? (⟨w.heap.size, 0, none⟩) = some (.int .i64 n15) ∧ condP (decide ((0 : Int) < n15)) (ref12_Table_Rows.p5 L0 K x0 (IntKind.wrap .i64 (x11 + (1 : Int))) x9A x9n x9c x10 x11 w14) (ref12_Table_Rows.p5 L0 K x0 x3 x9A x9n x9c x10 x11 w14)
abbrev ref12_Table_Rows.p6 (K : Value → World → Prop) (x0 : Option Addr) (x3 : Int) (w : World) : Prop :=
  wlet (w.alloc (.cells #[] 33)) fun w16 => ∃ (a17 : Addr), x0 = some a17 ∧ ∃ (A18 : Option Addr) (m19 : Nat) (c20 : Nat), w16.cell? a17 = some (.slice A18 m19 c20) ∧ (0 ≤ x3 ∧ x3 ≤ ((c20 : Nat) : Int)) ∧ SemJ Try.prog (Builtin.append_ #[30, 30] 30 #[.slice (some ⟨w.heap.size, 0, none⟩) 0 0, .slice (slA A18 0 c20 4) (x3.toNat - 0) (c20 - 0)]) (fun v21 w22 => ∃ (A23 : Option Addr) (m24 : Nat) (c25 : Nat), v21 = .slice A23 m24 c25 ∧ K (.slice A23 m24 c25) w22) w16
abbrev ref12_Table_Rows.p3 (L0 : Option Addr → Int → Option Addr → Nat → Nat → Int → Int → World → Prop) (K : Value → World → Prop) (x0 : Option Addr) (x3 : Int) (x9A : Option Addr) (x9n : Nat) (x9c : Nat) (x10 : Int) (x11 : Int) (x12 : Bool) (w : World) : Prop :=
  condP x12 (ref12_Table_Rows.p4 L0 K x0 x3 x9A x9n x9c x10 x11 w) (ref12_Table_Rows.p6 K x0 x3 w)
abbrev ref12_Table_Rows.b0 (L0 : Option Addr → Int → Option Addr → Nat → Nat → Int → Int → World → Prop) (K : Value → World → Prop) (x0 : Option Addr) (x3 : Int) (x9A : Option Addr) (x9n : Nat) (x9c : Nat) (x10 : Int) (x11 : Int) (w : World) : Prop :=
  ref12_Table_Rows.p3 L0 K x0 x3 x9A x9n x9c x10 x11 (decide (x11 < x10)) w
def ref12_Table_Rows.l0 (K : Value → World → Prop) (k : Nat) : Option Addr → Int → Option Addr → Nat → Nat → Int → Int → World → Prop :=
  Nat.rec (motive := fun _ => Option Addr → Int → Option Addr → Nat → Nat → Int → Int → World → Prop) (fun _ _ _ _ _ _ _ _ => False) (fun _ ih => ref12_Table_Rows.b0 ih K) k
theorem ref12_Table_Rows.l0_succ (K : Value → World → Prop) (k : Nat) (x0 : Option Addr) (x3 : Int) (x9A : Option Addr) (x9n : Nat) (x9c : Nat) (x10 : Int) (x11 : Int) (w : World) : ref12_Table_Rows.l0 K (k + 1) x0 x3 x9A x9n x9c x10 x11 w = ref12_Table_Rows.b0 (ref12_Table_Rows.l0 K k) K x0 x3 x9A x9n x9c x10 x11 w := rfl
abbrev ref12_Table_Rows.p2 (K : Value → World → Prop) (x0 : Option Addr) (x3 : Int) (x9A : Option Addr) (x9n : Nat) (x9c : Nat) (x10 : Int) (x11 : Int) (w : World) : Prop :=
  ∃ k, ref12_Table_Rows.l0 K k x0 x3 x9A x9n x9c x10 x11 w
abbrev ref12_Table_Rows.p1 (K : Value → World → Prop) (x0 : Option Addr) (x3 : Int) (w : World) : Prop :=
  ∃ (a1 : Addr), x0 = some a1 ∧ ∃ (A2 : Option Addr) (m3 : Nat) (c4 : Nat), w.cell? a1 = some (.slice A2 m3 c4) ∧ ref12_Table_Rows.p2 K x0 x3 A2 m3 c4 ((m3 : Nat) : Int) 0 w
abbrev ref12_Table_Rows.p0 (K : Value → World → Prop) (x0 : Option Addr) (w : World) : Prop :=
  ref12_Table_Rows.p1 K x0 0 w
abbrev ref12_Table_Rows.F (q0 : Option Addr) (K : Value → World → Prop) (w : World) : Prop :=
  ref12_Table_Rows.p0 K q0 w
theorem ref12_Table_Rows.ok {q0 : Option Addr} {K : Value → World → Prop} {w : World} (h : ref12_Table_Rows.F q0 K w) :
    CallsE Try.prog 34 #[.pointer q0] w K := by
  refine calls_of_J (n := 30) (rs := [.tmp 2]) Try.func34 rfl rfl rfl rfl ?_
  refine J_seq (fun σ w => vP (σ 0) fun x0 => ref12_Table_Rows.p0 K x0 w) ?_ ?_
  ·
    exact sh_sound _ _ _ _ (Eq.mp (by kernel_rfl) h)
  · intro σ w h
    obtain ⟨x0, e0, h⟩ := vP_elim h
    refine J.sub ?_ ((Sub.base _).upd e0)
    clear e0
    refine J_seq (fun σ w => vP (σ 0) fun x0 => vI .i64 (σ 3) fun x3 => ref12_Table_Rows.p1 K x0 x3 w) ?_ ?_
    ·
      exact sh_sound _ _ _ _ (Eq.mp (by kernel_rfl) h)
    · intro σ w h
      obtain ⟨x0, e0, h⟩ := vP_elim h
      obtain ⟨x3, e3, h⟩ := vI_elim h
      refine J.sub ?_ (((Sub.base _).upd e0).upd e3)
      clear e0 e3
      refine J_seq (fun σ w => vP (σ 0) fun x0 => vI .i64 (σ 3) fun x3 => ref12_Table_Rows.p6 K x0 x3 w) ?_ ?_
      ·
        refine J_seq (fun σ w => vP (σ 0) fun x0 => vI .i64 (σ 3) fun x3 => vS (σ 9) fun x9A x9n x9c => vI .i64 (σ 10) fun x10 => vI .i64 (σ 11) fun x11 => ref12_Table_Rows.p2 K x0 x3 x9A x9n x9c x10 x11 w) ?_ ?_
        ·
          exact sh_sound _ _ _ _ (Eq.mp (by kernel_rfl) h)
        · intro σ w h
          obtain ⟨x0, e0, h⟩ := vP_elim h
          obtain ⟨x3, e3, h⟩ := vI_elim h
          obtain ⟨x9A, x9n, x9c, e9, h⟩ := vS_elim h
          obtain ⟨x10, e10, h⟩ := vI_elim h
          obtain ⟨x11, e11, h⟩ := vI_elim h
          refine J.sub ?_ ((((((Sub.base _).upd e0).upd e3).upd e9).upd e10).upd e11)
          clear e0 e3 e9 e10 e11
          refine J_block ?_
          refine J_loop (fun k σ w => vP (σ 0) fun x0 => vI .i64 (σ 3) fun x3 => vS (σ 9) fun x9A x9n x9c => vI .i64 (σ 10) fun x10 => vI .i64 (σ 11) fun x11 => ref12_Table_Rows.l0 K k x0 x3 x9A x9n x9c x10 x11 w) (Eq.mp (by kernel_rfl) h) ?_ ?_
          · intro σ w h
            obtain ⟨x0, e0, h⟩ := vP_elim h
            obtain ⟨x3, e3, h⟩ := vI_elim h
            obtain ⟨x9A, x9n, x9c, e9, h⟩ := vS_elim h
            obtain ⟨x10, e10, h⟩ := vI_elim h
            obtain ⟨x11, e11, h⟩ := vI_elim h
            exact h
          · intro k0 σ w h
            obtain ⟨x0, e0, h⟩ := vP_elim h
            obtain ⟨x3, e3, h⟩ := vI_elim h
            obtain ⟨x9A, x9n, x9c, e9, h⟩ := vS_elim h
            obtain ⟨x10, e10, h⟩ := vI_elim h
            obtain ⟨x11, e11, h⟩ := vI_elim h
            refine J.sub ?_ ((((((Sub.base _).upd e0).upd e3).upd e9).upd e10).upd e11)
            clear e0 e3 e9 e10 e11
            refine J_seq (fun σ w => vP (σ 0) fun x0 => vI .i64 (σ 3) fun x3 => vS (σ 9) fun x9A x9n x9c => vI .i64 (σ 10) fun x10 => vI .i64 (σ 11) fun x11 => vB (σ 12) fun x12 => ref12_Table_Rows.p3 (ref12_Table_Rows.l0 K k0) K x0 x3 x9A x9n x9c x10 x11 x12 w) ?_ ?_
            ·
              exact sh_sound _ _ _ _ (Eq.mp (by kernel_rfl) h)
            · intro σ w h
              obtain ⟨x0, e0, h⟩ := vP_elim h
              obtain ⟨x3, e3, h⟩ := vI_elim h
              obtain ⟨x9A, x9n, x9c, e9, h⟩ := vS_elim h
              obtain ⟨x10, e10, h⟩ := vI_elim h
              obtain ⟨x11, e11, h⟩ := vI_elim h
              obtain ⟨x12, e12, h⟩ := vB_elim h
              refine J.sub ?_ (((((((Sub.base _).upd e0).upd e3).upd e9).upd e10).upd e11).upd e12)
              clear e0 e3 e9 e10 e11 e12
              refine J_seq (fun σ w => vP (σ 0) fun x0 => vI .i64 (σ 3) fun x3 => vS (σ 9) fun x9A x9n x9c => vI .i64 (σ 10) fun x10 => vI .i64 (σ 11) fun x11 => ref12_Table_Rows.p4 (ref12_Table_Rows.l0 K k0) K x0 x3 x9A x9n x9c x10 x11 w) ?_ ?_
              ·
                exact sh_sound _ _ _ _ (Eq.mp (by kernel_rfl) h)
              · intro σ w h
                obtain ⟨x0, e0, h⟩ := vP_elim h
                obtain ⟨x3, e3, h⟩ := vI_elim h
                obtain ⟨x9A, x9n, x9c, e9, h⟩ := vS_elim h
                obtain ⟨x10, e10, h⟩ := vI_elim h
                obtain ⟨x11, e11, h⟩ := vI_elim h
                refine J.sub ?_ ((((((Sub.base _).upd e0).upd e3).upd e9).upd e10).upd e11)
                clear e0 e3 e9 e10 e11
                refine J_seq (fun σ w => vP (σ 0) fun x0 => vI .i64 (σ 3) fun x3 => vS (σ 9) fun x9A x9n x9c => vI .i64 (σ 10) fun x10 => vI .i64 (σ 11) fun x11 => ref12_Table_Rows.p5 (ref12_Table_Rows.l0 K k0) K x0 x3 x9A x9n x9c x10 x11 w) ?_ ?_
                ·
                  exact sh_sound _ _ _ _ (Eq.mp (by kernel_rfl) h)
                · intro σ w h
                  obtain ⟨x0, e0, h⟩ := vP_elim h
                  obtain ⟨x3, e3, h⟩ := vI_elim h
                  obtain ⟨x9A, x9n, x9c, e9, h⟩ := vS_elim h
                  obtain ⟨x10, e10, h⟩ := vI_elim h
                  obtain ⟨x11, e11, h⟩ := vI_elim h
                  refine J.sub ?_ ((((((Sub.base _).upd e0).upd e3).upd e9).upd e10).upd e11)
                  clear e0 e3 e9 e10 e11
                  exact sh_sound _ _ _ _ (Eq.mp (by kernel_rfl) h)
      · intro σ w h
        obtain ⟨x0, e0, h⟩ := vP_elim h
        obtain ⟨x3, e3, h⟩ := vI_elim h
        refine J.sub ?_ (((Sub.base _).upd e0).upd e3)
        clear e0 e3
        exact sh_sound _ _ _ _ (Eq.mp (by kernel_rfl) h)

/-! ### hayloft/hayloftref12.Handles: function 35 -/
abbrev ref12_Handles.p3 (K : Value → World → Prop) (w : World) : Prop :=
  K (.bool true) w
abbrev ref12_Handles.b0 (L0 : Option Addr → Nat → Nat → Option Addr → Nat → Nat → Int → Int → World → Prop) (K : Value → World → Prop) (x0A : Option Addr) (x0n : Nat) (x0c : Nat) (x1A : Option Addr) (x1n : Nat) (x1c : Nat) (x12 : Int) (x13 : Int) (w : World) : Prop :=
  condP (decide (x13 < x12)) ((0 ≤ x13 ∧ x13 < ((x0n : Nat) : Int)) ∧ ∃ (a1 : Addr), x0A = some a1 ∧ ∃ (n2 : Int), w.cell? (a1.add x13.toNat) = some (.int .u64 n2) ∧ (0 ≤ x13 ∧ x13 < ((x1n : Nat) : Int)) ∧ ∃ (a3 : Addr), x1A = some a3 ∧ ∃ (n4 : Int), w.cell? (a3.add x13.toNat) = some (.int .u64 n4) ∧ condP (n2 != n4) (K (.bool false) w) (L0 x0A x0n x0c x1A x1n x1c x12 (IntKind.wrap .i64 (x13 + (1 : Int))) w)) (ref12_Handles.p3 K w)
def ref12_Handles.l0 (K : Value → World → Prop) (k : Nat) : Option Addr → Nat → Nat → Option Addr → Nat → Nat → Int → Int → World → Prop :=
  Nat.rec (motive := fun _ => Option Addr → Nat → Nat → Option Addr → Nat → Nat → Int → Int → World → Prop) (fun _ _ _ _ _ _ _ _ _ => False) (fun _ ih => ref12_Handles.b0 ih K) k
theorem ref12_Handles.l0_succ (K : Value → World → Prop) (k : Nat) (x0A : Option Addr) (x0n : Nat) (x0c : Nat) (x1A : Option Addr) (x1n : Nat) (x1c : Nat) (x12 : Int) (x13 : Int) (w : World) : ref12_Handles.l0 K (k + 1) x0A x0n x0c x1A x1n x1c x12 x13 w = ref12_Handles.b0 (ref12_Handles.l0 K k) K x0A x0n x0c x1A x1n x1c x12 x13 w := rfl
abbrev ref12_Handles.p2 (K : Value → World → Prop) (x0A : Option Addr) (x0n : Nat) (x0c : Nat) (x1A : Option Addr) (x1n : Nat) (x1c : Nat) (x12 : Int) (x13 : Int) (w : World) : Prop :=
  ∃ k, ref12_Handles.l0 K k x0A x0n x0c x1A x1n x1c x12 x13 w
abbrev ref12_Handles.p1 (K : Value → World → Prop) (x0A : Option Addr) (x0n : Nat) (x0c : Nat) (x1A : Option Addr) (x1n : Nat) (x1c : Nat) (w : World) : Prop :=
  ref12_Handles.p2 K x0A x0n x0c x1A x1n x1c ((x0n : Nat) : Int) 0 w
abbrev ref12_Handles.p0 (K : Value → World → Prop) (x0A : Option Addr) (x0n : Nat) (x0c : Nat) (x1A : Option Addr) (x1n : Nat) (x1c : Nat) (w : World) : Prop :=
  condP (((x0n : Nat) : Int) != ((x1n : Nat) : Int)) (K (.bool false) w) (ref12_Handles.p1 K x0A x0n x0c x1A x1n x1c w)
abbrev ref12_Handles.F (q0A : Option Addr) (q0n : Nat) (q0c : Nat) (q1A : Option Addr) (q1n : Nat) (q1c : Nat) (K : Value → World → Prop) (w : World) : Prop :=
  ref12_Handles.p0 K q0A q0n q0c q1A q1n q1c w
theorem ref12_Handles.ok {q0A : Option Addr} {q0n : Nat} {q0c : Nat} {q1A : Option Addr} {q1n : Nat} {q1c : Nat} {K : Value → World → Prop} {w : World} (h : ref12_Handles.F q0A q0n q0c q1A q1n q1c K w) :
    CallsE Try.prog 35 #[.slice q0A q0n q0c, .slice q1A q1n q1c] w K := by
  refine calls_of_J (n := 26) (rs := [.tmp 4]) Try.func35 rfl rfl rfl rfl ?_
  refine J_seq (fun σ w => vS (σ 0) fun x0A x0n x0c => vS (σ 1) fun x1A x1n x1c => ref12_Handles.p0 K x0A x0n x0c x1A x1n x1c w) ?_ ?_
  ·
    exact sh_sound _ _ _ _ (Eq.mp (by kernel_rfl) h)
  · intro σ w h
    obtain ⟨x0A, x0n, x0c, e0, h⟩ := vS_elim h
    obtain ⟨x1A, x1n, x1c, e1, h⟩ := vS_elim h
    refine J.sub ?_ (((Sub.base _).upd e0).upd e1)
    clear e0 e1
    refine J_seq (fun σ w => vS (σ 0) fun x0A x0n x0c => vS (σ 1) fun x1A x1n x1c => ref12_Handles.p1 K x0A x0n x0c x1A x1n x1c w) ?_ ?_
    ·
      exact sh_sound _ _ _ _ (Eq.mp (by kernel_rfl) h)
    · intro σ w h
      obtain ⟨x0A, x0n, x0c, e0, h⟩ := vS_elim h
      obtain ⟨x1A, x1n, x1c, e1, h⟩ := vS_elim h
      refine J.sub ?_ (((Sub.base _).upd e0).upd e1)
      clear e0 e1
      refine J_seq (fun σ w => ref12_Handles.p3 K w) ?_ ?_
      ·
        refine J_seq (fun σ w => vS (σ 0) fun x0A x0n x0c => vS (σ 1) fun x1A x1n x1c => vI .i64 (σ 12) fun x12 => vI .i64 (σ 13) fun x13 => ref12_Handles.p2 K x0A x0n x0c x1A x1n x1c x12 x13 w) ?_ ?_
        ·
          exact sh_sound _ _ _ _ (Eq.mp (by kernel_rfl) h)
        · intro σ w h
          obtain ⟨x0A, x0n, x0c, e0, h⟩ := vS_elim h
          obtain ⟨x1A, x1n, x1c, e1, h⟩ := vS_elim h
          obtain ⟨x12, e12, h⟩ := vI_elim h
          obtain ⟨x13, e13, h⟩ := vI_elim h
          refine J.sub ?_ (((((Sub.base _).upd e0).upd e1).upd e12).upd e13)
          clear e0 e1 e12 e13
          refine J_block ?_
          refine J_loop (fun k σ w => vS (σ 0) fun x0A x0n x0c => vS (σ 1) fun x1A x1n x1c => vI .i64 (σ 12) fun x12 => vI .i64 (σ 13) fun x13 => ref12_Handles.l0 K k x0A x0n x0c x1A x1n x1c x12 x13 w) (Eq.mp (by kernel_rfl) h) ?_ ?_
          · intro σ w h
            obtain ⟨x0A, x0n, x0c, e0, h⟩ := vS_elim h
            obtain ⟨x1A, x1n, x1c, e1, h⟩ := vS_elim h
            obtain ⟨x12, e12, h⟩ := vI_elim h
            obtain ⟨x13, e13, h⟩ := vI_elim h
            exact h
          · intro k0 σ w h
            obtain ⟨x0A, x0n, x0c, e0, h⟩ := vS_elim h
            obtain ⟨x1A, x1n, x1c, e1, h⟩ := vS_elim h
            obtain ⟨x12, e12, h⟩ := vI_elim h
            obtain ⟨x13, e13, h⟩ := vI_elim h
            refine J.sub ?_ (((((Sub.base _).upd e0).upd e1).upd e12).upd e13)
            clear e0 e1 e12 e13
            exact sh_sound _ _ _ _ (Eq.mp (by kernel_rfl) h)
      · intro σ w h
        refine J.sub ?_ (Sub.base _)
        exact sh_sound _ _ _ _ (Eq.mp (by kernel_rfl) h)

/-! ### (*hayloft/hayloftref12.Table).Full: function 36 -/
abbrev ref12_Table_Full.F (q0 : Option Addr) (K : Value → World → Prop) (w : World) : Prop :=
  CallsE Try.prog 37 #[.pointer q0] w (fun v1 w2 => ∃ (n3 : Int), v1 = .int .i64 n3 ∧ K (.bool (n3 == (0 : Int))) w2)
theorem ref12_Table_Full.ok {q0 : Option Addr} {K : Value → World → Prop} {w : World} (h : ref12_Table_Full.F q0 K w) :
    CallsE Try.prog 36 #[.pointer q0] w K := by
  refine calls_of_J (n := 6) (rs := [.tmp 2]) Try.func36 rfl rfl rfl rfl ?_
  exact sh_sound _ _ _ _ (Eq.mp (by kernel_rfl) h)

/-! ### (*hayloft/hayloftref12.Table).next: function 37 -/
abbrev ref12_Table_next.p6 (L0 : Option Addr → Nat → Nat → Int → Int → World → Prop) (K : Value → World → Prop) (x8A : Option Addr) (x8n : Nat) (x8c : Nat) (x9 : Int) (x10 : Int) (w : World) : Prop :=
  L0 x8A x8n x8c x9 (IntKind.wrap .i64 (x10 + (1 : Int))) w
abbrev ref12_Table_next.p5 (L0 : Option Addr → Nat → Nat → Int → Int → World → Prop) (K : Value → World → Prop) (x3 : Int) (x8A : Option Addr) (x8n : Nat) (x8c : Nat) (x9 : Int) (x10 : Int) (x22 : Bool) (w : World) : Prop :=
  condP x22 (K (.int .i64 (IntKind.wrap .i64 (x3 + (1 : Int)))) w) (ref12_Table_next.p6 L0 K x8A x8n x8c x9 x10 w)
abbrev ref12_Table_next.p4 (L0 : Option Addr → Nat → Nat → Int → Int → World → Prop) (K : Value → World → Prop) (x3 : Int) (x4 : Addr) (x8A : Option Addr) (x8n : Nat) (x8c : Nat) (x9 : Int) (x10 : Int) (w : World) : Prop :=
  ∃ (b15 : Bool), w.cell? (x4.add 1) = some (.bool b15) ∧ condP (!b15) (∃ (n16 : Int), w.cell? x4 = some (.int .i64 n16) ∧ ref12_Table_next.p5 L0 K x3 x8A x8n x8c x9 x10 (decide (n16 < (65535 : Int))) w) (ref12_Table_next.p5 L0 K x3 x8A x8n x8c x9 x10 false w)
abbrev ref12_Table_next.p3 (L0 : Option Addr → Nat → Nat → Int → Int → World → Prop) (K : Value → World → Prop) (x8A : Option Addr) (x8n : Nat) (x8c : Nat) (x9 : Int) (x10 : Int) (w : World) : Prop :=
  (0 ≤ x10 ∧ x10 < ((x8n : Nat) : Int)) ∧ ∃ (a5 : Addr), x8A = some a5 ∧ ∃ (n6 : Int), w.cell? (a5.add (x10.toNat * 4)) = some (.int .i64 n6) ∧ ∃ (b7 : Bool), w.cell? ((a5.add (x10.toNat * 4)).add 1) = some (.bool b7) ∧ ∃ (n8 : Int), w.cell? ((a5.add (x10.toNat * 4)).add 2) = some (.int .i64 n8) ∧ ∃ (n9 : Int), w.cell? ((a5.add (x10.toNat * 4)).add 3) = some (.int .i64 n9) ∧ wlet (w.alloc (.cells #[.int .i64 0, .bool false, .int .i64 0, .int .i64 0] 33)) fun w10 => canStore w10 (⟨w.heap.size, 0, none⟩) ∧ wlet (w10.setCell (⟨w.heap.size, 0, none⟩) (.int .i64 n6)) fun w11 => canStore w11 (⟨w.heap.size, 1, none⟩) ∧ wlet (w11.setCell (⟨w.heap.size, 1, none⟩) (.bool b7)) fun w12 => canStore w12 (⟨w.heap.size, 2, none⟩) ∧ wlet (w12.setCell (⟨w.heap.size, 2, none⟩) (.int .i64 n8)) fun w13 => canStore w13 (⟨w.heap.size, 3, none⟩) ∧ wlet (w13.setCell (⟨w.heap.size, 3, none⟩) (.int .i64 n9)) fun w14 => ref12_Table_next.p4 L0 K x10 (⟨w.heap.size, 0, none⟩) x8A x8n x8c x9 x10 w14
abbrev ref12_Table_next.p7 (K : Value → World → Prop) (w : World) : Prop :=
  K (.int .i64 0) w
abbrev ref12_Table_next.p2 (L0 : Option Addr → Nat → Nat → Int → Int → World → Prop) (K : Value → World → Prop) (x8A : Option Addr) (x8n : Nat) (x8c : Nat) (x9 : Int) (x10 : Int) (x11 : Bool) (w : World) : Prop :=
  condP x11 (ref12_Table_next.p3 L0 K x8A x8n x8c x9 x10 w) (ref12_Table_next.p7 K w)
abbrev ref12_Table_next.b0 (L0 : Option Addr → Nat → Nat → Int → Int → World → Prop) (K : Value → World → Prop) (x8A : Option Addr) (x8n : Nat) (x8c : Nat) (x9 : Int) (x10 : Int) (w : World) : Prop :=
  ref12_Table_next.p2 L0 K x8A x8n x8c x9 x10 (decide (x10 < x9)) w
def ref12_Table_next.l0 (K : Value → World → Prop) (k : Nat) : Option Addr → Nat → Nat → Int → Int → World → Prop :=
  Nat.rec (motive := fun _ => Option Addr → Nat → Nat → Int → Int → World → Prop) (fun _ _ _ _ _ _ => False) (fun _ ih => ref12_Table_next.b0 ih K) k
theorem ref12_Table_next.l0_succ (K : Value → World → Prop) (k : Nat) (x8A : Option Addr) (x8n : Nat) (x8c : Nat) (x9 : Int) (x10 : Int) (w : World) : ref12_Table_next.l0 K (k + 1) x8A x8n x8c x9 x10 w = ref12_Table_next.b0 (ref12_Table_next.l0 K k) K x8A x8n x8c x9 x10 w := rfl
abbrev ref12_Table_next.p1 (K : Value → World → Prop) (x8A : Option Addr) (x8n : Nat) (x8c : Nat) (x9 : Int) (x10 : Int) (w : World) : Prop :=
  ∃ k, ref12_Table_next.l0 K k x8A x8n x8c x9 x10 w
abbrev ref12_Table_next.p0 (K : Value → World → Prop) (x0 : Option Addr) (w : World) : Prop :=
  ∃ (a1 : Addr), x0 = some a1 ∧ ∃ (A2 : Option Addr) (m3 : Nat) (c4 : Nat), w.cell? a1 = some (.slice A2 m3 c4) ∧ ref12_Table_next.p1 K A2 m3 c4 ((m3 : Nat) : Int) 0 w
abbrev ref12_Table_next.F (q0 : Option Addr) (K : Value → World → Prop) (w : World) : Prop :=
  ref12_Table_next.p0 K q0 w
theorem ref12_Table_next.ok {q0 : Option Addr} {K : Value → World → Prop} {w : World} (h : ref12_Table_next.F q0 K w) :
    CallsE Try.prog 37 #[.pointer q0] w K := by
  refine calls_of_J (n := 26) (rs := [.tmp 2]) Try.func37 rfl rfl rfl rfl ?_
  refine J_seq (fun σ w => vP (σ 0) fun x0 => ref12_Table_next.p0 K x0 w) ?_ ?_
  ·
    exact sh_sound _ _ _ _ (Eq.mp (by kernel_rfl) h)
  · intro σ w h
    obtain ⟨x0, e0, h⟩ := vP_elim h
    refine J.sub ?_ ((Sub.base _).upd e0)
    clear e0
    refine J_seq (fun σ w => ref12_Table_next.p7 K w) ?_ ?_
    ·
      refine J_seq (fun σ w => vS (σ 8) fun x8A x8n x8c => vI .i64 (σ 9) fun x9 => vI .i64 (σ 10) fun x10 => ref12_Table_next.p1 K x8A x8n x8c x9 x10 w) ?_ ?_
      ·
        exact sh_sound _ _ _ _ (Eq.mp (by kernel_rfl) h)
      · intro σ w h
        obtain ⟨x8A, x8n, x8c, e8, h⟩ := vS_elim h
        obtain ⟨x9, e9, h⟩ := vI_elim h
        obtain ⟨x10, e10, h⟩ := vI_elim h
        refine J.sub ?_ ((((Sub.base _).upd e8).upd e9).upd e10)
        clear e8 e9 e10
        refine J_block ?_
        refine J_loop (fun k σ w => vS (σ 8) fun x8A x8n x8c => vI .i64 (σ 9) fun x9 => vI .i64 (σ 10) fun x10 => ref12_Table_next.l0 K k x8A x8n x8c x9 x10 w) (Eq.mp (by kernel_rfl) h) ?_ ?_
        · intro σ w h
          obtain ⟨x8A, x8n, x8c, e8, h⟩ := vS_elim h
          obtain ⟨x9, e9, h⟩ := vI_elim h
          obtain ⟨x10, e10, h⟩ := vI_elim h
          exact h
        · intro k0 σ w h
          obtain ⟨x8A, x8n, x8c, e8, h⟩ := vS_elim h
          obtain ⟨x9, e9, h⟩ := vI_elim h
          obtain ⟨x10, e10, h⟩ := vI_elim h
          refine J.sub ?_ ((((Sub.base _).upd e8).upd e9).upd e10)
          clear e8 e9 e10
          refine J_seq (fun σ w => vS (σ 8) fun x8A x8n x8c => vI .i64 (σ 9) fun x9 => vI .i64 (σ 10) fun x10 => vB (σ 11) fun x11 => ref12_Table_next.p2 (ref12_Table_next.l0 K k0) K x8A x8n x8c x9 x10 x11 w) ?_ ?_
          ·
            exact sh_sound _ _ _ _ (Eq.mp (by kernel_rfl) h)
          · intro σ w h
            obtain ⟨x8A, x8n, x8c, e8, h⟩ := vS_elim h
            obtain ⟨x9, e9, h⟩ := vI_elim h
            obtain ⟨x10, e10, h⟩ := vI_elim h
            obtain ⟨x11, e11, h⟩ := vB_elim h
            refine J.sub ?_ (((((Sub.base _).upd e8).upd e9).upd e10).upd e11)
            clear e8 e9 e10 e11
            refine J_seq (fun σ w => vS (σ 8) fun x8A x8n x8c => vI .i64 (σ 9) fun x9 => vI .i64 (σ 10) fun x10 => ref12_Table_next.p3 (ref12_Table_next.l0 K k0) K x8A x8n x8c x9 x10 w) ?_ ?_
            ·
              exact sh_sound _ _ _ _ (Eq.mp (by kernel_rfl) h)
            · intro σ w h
              obtain ⟨x8A, x8n, x8c, e8, h⟩ := vS_elim h
              obtain ⟨x9, e9, h⟩ := vI_elim h
              obtain ⟨x10, e10, h⟩ := vI_elim h
              refine J.sub ?_ ((((Sub.base _).upd e8).upd e9).upd e10)
              clear e8 e9 e10
              refine J_seq (fun σ w => vS (σ 8) fun x8A x8n x8c => vI .i64 (σ 9) fun x9 => vI .i64 (σ 10) fun x10 => ref12_Table_next.p6 (ref12_Table_next.l0 K k0) K x8A x8n x8c x9 x10 w) ?_ ?_
              ·
                refine J_block ?_
                refine J_seq (fun σ w => vI .i64 (σ 3) fun x3 => vPa (σ 4) fun x4 => vS (σ 8) fun x8A x8n x8c => vI .i64 (σ 9) fun x9 => vI .i64 (σ 10) fun x10 => ref12_Table_next.p4 (ref12_Table_next.l0 K k0) K x3 x4 x8A x8n x8c x9 x10 w) ?_ ?_
                ·
                  exact sh_sound _ _ _ _ (Eq.mp (by kernel_rfl) h)
                · intro σ w h
                  obtain ⟨x3, e3, h⟩ := vI_elim h
                  obtain ⟨x4, e4, h⟩ := vPa_elim h
                  obtain ⟨x8A, x8n, x8c, e8, h⟩ := vS_elim h
                  obtain ⟨x9, e9, h⟩ := vI_elim h
                  obtain ⟨x10, e10, h⟩ := vI_elim h
                  refine J.sub ?_ ((((((Sub.base _).upd e3).upd e4).upd e8).upd e9).upd e10)
                  clear e3 e4 e8 e9 e10
                  refine J_seq (fun σ w => vI .i64 (σ 3) fun x3 => vS (σ 8) fun x8A x8n x8c => vI .i64 (σ 9) fun x9 => vI .i64 (σ 10) fun x10 => vB (σ 22) fun x22 => ref12_Table_next.p5 (ref12_Table_next.l0 K k0) K x3 x8A x8n x8c x9 x10 x22 w) ?_ ?_
                  ·
                    exact sh_sound _ _ _ _ (Eq.mp (by kernel_rfl) h)
                  · intro σ w h
                    obtain ⟨x3, e3, h⟩ := vI_elim h
                    obtain ⟨x8A, x8n, x8c, e8, h⟩ := vS_elim h
                    obtain ⟨x9, e9, h⟩ := vI_elim h
                    obtain ⟨x10, e10, h⟩ := vI_elim h
                    obtain ⟨x22, e22, h⟩ := vB_elim h
                    refine J.sub ?_ ((((((Sub.base _).upd e3).upd e8).upd e9).upd e10).upd e22)
                    clear e3 e8 e9 e10 e22
                    exact sh_sound _ _ _ _ (Eq.mp (by kernel_rfl) h)
              · intro σ w h
                obtain ⟨x8A, x8n, x8c, e8, h⟩ := vS_elim h
                obtain ⟨x9, e9, h⟩ := vI_elim h
                obtain ⟨x10, e10, h⟩ := vI_elim h
                refine J.sub ?_ ((((Sub.base _).upd e8).upd e9).upd e10)
                clear e8 e9 e10
                exact sh_sound _ _ _ _ (Eq.mp (by kernel_rfl) h)
    · intro σ w h
      refine J.sub ?_ (Sub.base _)
      exact sh_sound _ _ _ _ (Eq.mp (by kernel_rfl) h)

/-! ### (*hayloft/hayloftref12.Table).Find: function 38 -/
abbrev ref12_Table_Find.p6 (L0 : Int → Option Addr → Nat → Nat → Int → Int → World → Prop) (K : Value → World → Prop) (x1 : Int) (x10A : Option Addr) (x10n : Nat) (x10c : Nat) (x11 : Int) (x12 : Int) (w : World) : Prop :=
  L0 x1 x10A x10n x10c x11 (IntKind.wrap .i64 (x12 + (1 : Int))) w
abbrev ref12_Table_Find.p5 (L0 : Int → Option Addr → Nat → Nat → Int → Int → World → Prop) (K : Value → World → Prop) (x1 : Int) (x5 : Int) (x10A : Option Addr) (x10n : Nat) (x10c : Nat) (x11 : Int) (x12 : Int) (x27 : Bool) (w : World) : Prop :=
  condP x27 (K (.int .i64 (IntKind.wrap .i64 (x5 + (1 : Int)))) w) (ref12_Table_Find.p6 L0 K x1 x10A x10n x10c x11 x12 w)
abbrev ref12_Table_Find.p4 (L0 : Int → Option Addr → Nat → Nat → Int → Int → World → Prop) (K : Value → World → Prop) (x1 : Int) (x5 : Int) (x6 : Addr) (x10A : Option Addr) (x10n : Nat) (x10c : Nat) (x11 : Int) (x12 : Int) (w : World) : Prop :=
  ∃ (b15 : Bool), w.cell? (x6.add 1) = some (.bool b15) ∧ condP b15 (∃ (n16 : Int), w.cell? x6 = some (.int .i64 n16) ∧ CallsE Try.prog 12 #[.int .i64 (IntKind.wrap .i64 (x5 + (1 : Int))), .int .i64 n16] w (fun v17 w18 => ∃ (n19 : Int), v17 = .int .u64 n19 ∧ ref12_Table_Find.p5 L0 K x1 x5 x10A x10n x10c x11 x12 (n19 == x1) w18)) (ref12_Table_Find.p5 L0 K x1 x5 x10A x10n x10c x11 x12 false w)
abbrev ref12_Table_Find.p3 (L0 : Int → Option Addr → Nat → Nat → Int → Int → World → Prop) (K : Value → World → Prop) (x1 : Int) (x10A : Option Addr) (x10n : Nat) (x10c : Nat) (x11 : Int) (x12 : Int) (w : World) : Prop :=
  (0 ≤ x12 ∧ x12 < ((x10n : Nat) : Int)) ∧ ∃ (a5 : Addr), x10A = some a5 ∧ ∃ (n6 : Int), w.cell? (a5.add (x12.toNat * 4)) = some (.int .i64 n6) ∧ ∃ (b7 : Bool), w.cell? ((a5.add (x12.toNat * 4)).add 1) = some (.bool b7) ∧ ∃ (n8 : Int), w.cell? ((a5.add (x12.toNat * 4)).add 2) = some (.int .i64 n8) ∧ ∃ (n9 : Int), w.cell? ((a5.add (x12.toNat * 4)).add 3) = some (.int .i64 n9) ∧ wlet (w.alloc (.cells #[.int .i64 0, .bool false, .int .i64 0, .int .i64 0] 33)) fun w10 => canStore w10 (⟨w.heap.size, 0, none⟩) ∧ wlet (w10.setCell (⟨w.heap.size, 0, none⟩) (.int .i64 n6)) fun w11 => canStore w11 (⟨w.heap.size, 1, none⟩) ∧ wlet (w11.setCell (⟨w.heap.size, 1, none⟩) (.bool b7)) fun w12 => canStore w12 (⟨w.heap.size, 2, none⟩) ∧ wlet (w12.setCell (⟨w.heap.size, 2, none⟩) (.int .i64 n8)) fun w13 => canStore w13 (⟨w.heap.size, 3, none⟩) ∧ wlet (w13.setCell (⟨w.heap.size, 3, none⟩) (.int .i64 n9)) fun w14 => ref12_Table_Find.p4 L0 K x1 x12 (⟨w.heap.size, 0, none⟩) x10A x10n x10c x11 x12 w14
abbrev ref12_Table_Find.p7 (K : Value → World → Prop) (w : World) : Prop :=
  K (.int .i64 0) w
abbrev ref12_Table_Find.p2 (L0 : Int → Option Addr → Nat → Nat → Int → Int → World → Prop) (K : Value → World → Prop) (x1 : Int) (x10A : Option Addr) (x10n : Nat) (x10c : Nat) (x11 : Int) (x12 : Int) (x13 : Bool) (w : World) : Prop :=
  condP x13 (ref12_Table_Find.p3 L0 K x1 x10A x10n x10c x11 x12 w) (ref12_Table_Find.p7 K w)
abbrev ref12_Table_Find.b0 (L0 : Int → Option Addr → Nat → Nat → Int → Int → World → Prop) (K : Value → World → Prop) (x1 : Int) (x10A : Option Addr) (x10n : Nat) (x10c : Nat) (x11 : Int) (x12 : Int) (w : World) : Prop :=
  ref12_Table_Find.p2 L0 K x1 x10A x10n x10c x11 x12 (decide (x12 < x11)) w
def ref12_Table_Find.l0 (K : Value → World → Prop) (k : Nat) : Int → Option Addr → Nat → Nat → Int → Int → World → Prop :=
  Nat.rec (motive := fun _ => Int → Option Addr → Nat → Nat → Int → Int → World → Prop) (fun _ _ _ _ _ _ _ => False) (fun _ ih => ref12_Table_Find.b0 ih K) k
theorem ref12_Table_Find.l0_succ (K : Value → World → Prop) (k : Nat) (x1 : Int) (x10A : Option Addr) (x10n : Nat) (x10c : Nat) (x11 : Int) (x12 : Int) (w : World) : ref12_Table_Find.l0 K (k + 1) x1 x10A x10n x10c x11 x12 w = ref12_Table_Find.b0 (ref12_Table_Find.l0 K k) K x1 x10A x10n x10c x11 x12 w := rfl
abbrev ref12_Table_Find.p1 (K : Value → World → Prop) (x1 : Int) (x10A : Option Addr) (x10n : Nat) (x10c : Nat) (x11 : Int) (x12 : Int) (w : World) : Prop :=
  ∃ k, ref12_Table_Find.l0 K k x1 x10A x10n x10c x11 x12 w
abbrev ref12_Table_Find.p0 (K : Value → World → Prop) (x0 : Option Addr) (x1 : Int) (w : World) : Prop :=
  ∃ (a1 : Addr), x0 = some a1 ∧ ∃ (A2 : Option Addr) (m3 : Nat) (c4 : Nat), w.cell? a1 = some (.slice A2 m3 c4) ∧ ref12_Table_Find.p1 K x1 A2 m3 c4 ((m3 : Nat) : Int) 0 w
abbrev ref12_Table_Find.F (q0 : Option Addr) (q1 : Int) (K : Value → World → Prop) (w : World) : Prop :=
  ref12_Table_Find.p0 K q0 q1 w
theorem ref12_Table_Find.ok {q0 : Option Addr} {q1 : Int} {K : Value → World → Prop} {w : World} (h : ref12_Table_Find.F q0 q1 K w) :
    CallsE Try.prog 38 #[.pointer q0, .int .u64 q1] w K := by
  refine calls_of_J (n := 31) (rs := [.tmp 4]) Try.func38 rfl rfl rfl rfl ?_
  refine J_seq (fun σ w => vP (σ 0) fun x0 => vI .u64 (σ 1) fun x1 => ref12_Table_Find.p0 K x0 x1 w) ?_ ?_
  ·
    exact sh_sound _ _ _ _ (Eq.mp (by kernel_rfl) h)
  · intro σ w h
    obtain ⟨x0, e0, h⟩ := vP_elim h
    obtain ⟨x1, e1, h⟩ := vI_elim h
    refine J.sub ?_ (((Sub.base _).upd e0).upd e1)
    clear e0 e1
    refine J_seq (fun σ w => ref12_Table_Find.p7 K w) ?_ ?_
    ·
      refine J_seq (fun σ w => vI .u64 (σ 1) fun x1 => vS (σ 10) fun x10A x10n x10c => vI .i64 (σ 11) fun x11 => vI .i64 (σ 12) fun x12 => ref12_Table_Find.p1 K x1 x10A x10n x10c x11 x12 w) ?_ ?_
      ·
        exact sh_sound _ _ _ _ (Eq.mp (by kernel_rfl) h)
      · intro σ w h
        obtain ⟨x1, e1, h⟩ := vI_elim h
        obtain ⟨x10A, x10n, x10c, e10, h⟩ := vS_elim h
        obtain ⟨x11, e11, h⟩ := vI_elim h
        obtain ⟨x12, e12, h⟩ := vI_elim h
        refine J.sub ?_ (((((Sub.base _).upd e1).upd e10).upd e11).upd e12)
        clear e1 e10 e11 e12
        refine J_block ?_
        refine J_loop (fun k σ w => vI .u64 (σ 1) fun x1 => vS (σ 10) fun x10A x10n x10c => vI .i64 (σ 11) fun x11 => vI .i64 (σ 12) fun x12 => ref12_Table_Find.l0 K k x1 x10A x10n x10c x11 x12 w) (Eq.mp (by kernel_rfl) h) ?_ ?_
        · intro σ w h
          obtain ⟨x1, e1, h⟩ := vI_elim h
          obtain ⟨x10A, x10n, x10c, e10, h⟩ := vS_elim h
          obtain ⟨x11, e11, h⟩ := vI_elim h
          obtain ⟨x12, e12, h⟩ := vI_elim h
          exact h
        · intro k0 σ w h
          obtain ⟨x1, e1, h⟩ := vI_elim h
          obtain ⟨x10A, x10n, x10c, e10, h⟩ := vS_elim h
          obtain ⟨x11, e11, h⟩ := vI_elim h
          obtain ⟨x12, e12, h⟩ := vI_elim h
          refine J.sub ?_ (((((Sub.base _).upd e1).upd e10).upd e11).upd e12)
          clear e1 e10 e11 e12
          refine J_seq (fun σ w => vI .u64 (σ 1) fun x1 => vS (σ 10) fun x10A x10n x10c => vI .i64 (σ 11) fun x11 => vI .i64 (σ 12) fun x12 => vB (σ 13) fun x13 => ref12_Table_Find.p2 (ref12_Table_Find.l0 K k0) K x1 x10A x10n x10c x11 x12 x13 w) ?_ ?_
          ·
            exact sh_sound _ _ _ _ (Eq.mp (by kernel_rfl) h)
          · intro σ w h
            obtain ⟨x1, e1, h⟩ := vI_elim h
            obtain ⟨x10A, x10n, x10c, e10, h⟩ := vS_elim h
            obtain ⟨x11, e11, h⟩ := vI_elim h
            obtain ⟨x12, e12, h⟩ := vI_elim h
            obtain ⟨x13, e13, h⟩ := vB_elim h
            refine J.sub ?_ ((((((Sub.base _).upd e1).upd e10).upd e11).upd e12).upd e13)
            clear e1 e10 e11 e12 e13
            refine J_seq (fun σ w => vI .u64 (σ 1) fun x1 => vS (σ 10) fun x10A x10n x10c => vI .i64 (σ 11) fun x11 => vI .i64 (σ 12) fun x12 => ref12_Table_Find.p3 (ref12_Table_Find.l0 K k0) K x1 x10A x10n x10c x11 x12 w) ?_ ?_
            ·
              exact sh_sound _ _ _ _ (Eq.mp (by kernel_rfl) h)
            · intro σ w h
              obtain ⟨x1, e1, h⟩ := vI_elim h
              obtain ⟨x10A, x10n, x10c, e10, h⟩ := vS_elim h
              obtain ⟨x11, e11, h⟩ := vI_elim h
              obtain ⟨x12, e12, h⟩ := vI_elim h
              refine J.sub ?_ (((((Sub.base _).upd e1).upd e10).upd e11).upd e12)
              clear e1 e10 e11 e12
              refine J_seq (fun σ w => vI .u64 (σ 1) fun x1 => vS (σ 10) fun x10A x10n x10c => vI .i64 (σ 11) fun x11 => vI .i64 (σ 12) fun x12 => ref12_Table_Find.p6 (ref12_Table_Find.l0 K k0) K x1 x10A x10n x10c x11 x12 w) ?_ ?_
              ·
                refine J_block ?_
                refine J_seq (fun σ w => vI .u64 (σ 1) fun x1 => vI .i64 (σ 5) fun x5 => vPa (σ 6) fun x6 => vS (σ 10) fun x10A x10n x10c => vI .i64 (σ 11) fun x11 => vI .i64 (σ 12) fun x12 => ref12_Table_Find.p4 (ref12_Table_Find.l0 K k0) K x1 x5 x6 x10A x10n x10c x11 x12 w) ?_ ?_
                ·
                  exact sh_sound _ _ _ _ (Eq.mp (by kernel_rfl) h)
                · intro σ w h
                  obtain ⟨x1, e1, h⟩ := vI_elim h
                  obtain ⟨x5, e5, h⟩ := vI_elim h
                  obtain ⟨x6, e6, h⟩ := vPa_elim h
                  obtain ⟨x10A, x10n, x10c, e10, h⟩ := vS_elim h
                  obtain ⟨x11, e11, h⟩ := vI_elim h
                  obtain ⟨x12, e12, h⟩ := vI_elim h
                  refine J.sub ?_ (((((((Sub.base _).upd e1).upd e5).upd e6).upd e10).upd e11).upd e12)
                  clear e1 e5 e6 e10 e11 e12
                  refine J_seq (fun σ w => vI .u64 (σ 1) fun x1 => vI .i64 (σ 5) fun x5 => vS (σ 10) fun x10A x10n x10c => vI .i64 (σ 11) fun x11 => vI .i64 (σ 12) fun x12 => vB (σ 27) fun x27 => ref12_Table_Find.p5 (ref12_Table_Find.l0 K k0) K x1 x5 x10A x10n x10c x11 x12 x27 w) ?_ ?_
                  ·
                    exact sh_sound _ _ _ _ (Eq.mp (by kernel_rfl) h)
                  · intro σ w h
                    obtain ⟨x1, e1, h⟩ := vI_elim h
                    obtain ⟨x5, e5, h⟩ := vI_elim h
                    obtain ⟨x10A, x10n, x10c, e10, h⟩ := vS_elim h
                    obtain ⟨x11, e11, h⟩ := vI_elim h
                    obtain ⟨x12, e12, h⟩ := vI_elim h
                    obtain ⟨x27, e27, h⟩ := vB_elim h
                    refine J.sub ?_ (((((((Sub.base _).upd e1).upd e5).upd e10).upd e11).upd e12).upd e27)
                    clear e1 e5 e10 e11 e12 e27
                    exact sh_sound _ _ _ _ (Eq.mp (by kernel_rfl) h)
              · intro σ w h
                obtain ⟨x1, e1, h⟩ := vI_elim h
                obtain ⟨x10A, x10n, x10c, e10, h⟩ := vS_elim h
                obtain ⟨x11, e11, h⟩ := vI_elim h
                obtain ⟨x12, e12, h⟩ := vI_elim h
                refine J.sub ?_ (((((Sub.base _).upd e1).upd e10).upd e11).upd e12)
                clear e1 e10 e11 e12
                exact sh_sound _ _ _ _ (Eq.mp (by kernel_rfl) h)
    · intro σ w h
      refine J.sub ?_ (Sub.base _)
      exact sh_sound _ _ _ _ (Eq.mp (by kernel_rfl) h)

end Go.Proofs.Ytcpgflcbjcekeaa.F
