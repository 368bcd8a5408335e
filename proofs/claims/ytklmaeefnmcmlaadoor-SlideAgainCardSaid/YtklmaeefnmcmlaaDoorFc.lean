/-
  Printed by a program: for each Go function a proposition that says what it comes to, and the proof that the code comes to it. No condition beyond what each theorem states.
-/
import Derived.Test.YtklmaeefnmcmlaaDoorFa
set_option linter.unusedVariables false
set_option maxRecDepth 100000
namespace Go.Proofs.YtklmaeefnmcmlaaDoor.F
open Go Go.RowKit Go.Proofs.YtklmaeefnmcmlaaDoor Go.Proofs.YtklmaeefnmcmlaaDoor.Sh

/-! ### hayloft/hayloftref11.From: function 30 -/
abbrev ref11_From.p15 (L1 : Int → Addr → Int → Option Addr → Addr → Option Addr → Nat → Nat → Int → Int → Int → Int → World → Prop) (L0 : Int → Addr → Int → Option Addr → Nat → Nat → Int → Int → World → Prop) (K : Value → World → Prop) (x0 : Int) (x8 : Addr) (x9 : Int) (x12 : Option Addr) (x14 : Addr) (x34A : Option Addr) (x34n : Nat) (x34c : Nat) (x35 : Int) (x36 : Int) (x64 : Int) (x65 : Int) (w : World) : Prop :=
  L1 x0 x8 x9 x12 x14 x34A x34n x34c x35 x36 x64 (IntKind.wrap .i64 (x65 + (1 : Int))) w
abbrev ref11_From.p14 (L1 : Int → Addr → Int → Option Addr → Addr → Option Addr → Nat → Nat → Int → Int → Int → Int → World → Prop) (L0 : Int → Addr → Int → Option Addr → Nat → Nat → Int → Int → World → Prop) (K : Value → World → Prop) (x0 : Int) (x8 : Addr) (x9 : Int) (x12 : Option Addr) (x14 : Addr) (x34A : Option Addr) (x34n : Nat) (x34c : Nat) (x35 : Int) (x36 : Int) (x64 : Int) (x65 : Int) (w : World) : Prop :=
  ∃ (a42 : Addr), x12 = some a42 ∧ ∃ (A43 : Option Addr) (m44 : Nat) (c45 : Nat), w.cell? (a42.add 3) = some (.slice A43 m44 c45) ∧ (0 ≤ x65 ∧ x65 < ((m44 : Nat) : Int)) ∧ ∃ (a46 : Addr), A43 = some a46 ∧ ∃ (b47 : Bool), w.cell? (a46.add x65.toNat) = some (.bool b47) ∧ condP b47 (∃ (A48 : Option Addr) (m49 : Nat) (c50 : Nat), w.cell? (x14.add 3) = some (.slice A48 m49 c50) ∧ (0 ≤ x65 ∧ x65 < ((m49 : Nat) : Int)) ∧ ∃ (a51 : Addr), A48 = some a51 ∧ canStore w (a51.add x65.toNat) ∧ wlet (w.setCell (a51.add x65.toNat) (.int .i64 1)) fun w52 => ref11_From.p15 L1 L0 K x0 x8 x9 x12 x14 x34A x34n x34c x35 x36 x64 x65 w52) (ref11_From.p15 L1 L0 K x0 x8 x9 x12 x14 x34A x34n x34c x35 x36 x64 x65 w)
abbrev ref11_From.p20 (L0 : Int → Addr → Int → Option Addr → Nat → Nat → Int → Int → World → Prop) (K : Value → World → Prop) (x0 : Int) (x8 : Addr) (x9 : Int) (x34A : Option Addr) (x34n : Nat) (x34c : Nat) (x35 : Int) (x36 : Int) (w : World) : Prop :=
  L0 x0 x8 x9 x34A x34n x34c x35 (IntKind.wrap .i64 (x36 + (1 : Int))) w
abbrev ref11_From.p19 (L0 : Int → Addr → Int → Option Addr → Nat → Nat → Int → Int → World → Prop) (K : Value → World → Prop) (x0 : Int) (x8 : Addr) (x9 : Int) (x14 : Addr) (x34A : Option Addr) (x34n : Nat) (x34c : Nat) (x35 : Int) (x36 : Int) (w : World) : Prop :=
  ∃ (S66 : Array Obj → Prop), S66 w.heap ∧ ∃ (a67 : Addr), some x8 = some a67 ∧ ∃ (A68 : Option Addr) (m69 : Nat) (c70 : Nat), (∀ w' : World, S66 w'.heap → w'.cell? (a67.add 2) = some (.slice A68 m69 c70)) ∧ ∃ (n71 : Int), (∀ w' : World, S66 w'.heap → w'.cell? x14 = some (.int .i64 n71)) ∧ ∃ (n72 : Int), (∀ w' : World, S66 w'.heap → w'.cell? (x14.add 1) = some (.int .i64 n72)) ∧ ∃ (n73 : Int), (∀ w' : World, S66 w'.heap → w'.cell? (x14.add 2) = some (.int .i64 n73)) ∧ ∃ (A74 : Option Addr) (m75 : Nat) (c76 : Nat), (∀ w' : World, S66 w'.heap → w'.cell? (x14.add 3) = some (.slice A74 m75 c76)) ∧ wlet (w.alloc (.cells #[.int .i64 n71, .int .i64 n72, .int .i64 n73, .slice A74 m75 c76] 88)) fun w77 => S66 w77.heap ∧ SemJ Tryd.prog (Builtin.append_ #[78, 78] 78 #[.slice A68 m69 c70, .slice (some ⟨w.heap.size, 0, none⟩) 1 1]) (fun v78 w79 => ∃ (A80 : Option Addr) (m81 : Nat) (c82 : Nat), v78 = .slice A80 m81 c82 ∧ S66 w79.heap ∧ ∃ (a83 : Addr), some x8 = some a83 ∧ canStore w79 (a83.add 2) ∧ wlet (w79.setCell (a83.add 2) (.slice A80 m81 c82)) fun w84 => ref11_From.p20 L0 K x0 x8 x9 x34A x34n x34c x35 x36 w84) w77
abbrev ref11_From.p18 (L0 : Int → Addr → Int → Option Addr → Nat → Nat → Int → Int → World → Prop) (K : Value → World → Prop) (x0 : Int) (x8 : Addr) (x14 : Addr) (x34A : Option Addr) (x34n : Nat) (x34c : Nat) (x35 : Int) (x36 : Int) (w : World) : Prop :=
  ∃ (S55 : Array Obj → Prop), S55 w.heap ∧ ∃ (n56 : Int), (∀ w' : World, S55 w'.heap → w'.cell? x14 = some (.int .i64 n56)) ∧ ∃ (n57 : Int), (∀ w' : World, S55 w'.heap → w'.cell? x14 = some (.int .i64 n57)) ∧ ∃ (n58 : Int), (∀ w' : World, S55 w'.heap → w'.cell? (x14.add 1) = some (.int .i64 n58)) ∧ ∃ (n59 : Int), (∀ w' : World, S55 w'.heap → w'.cell? (x14.add 2) = some (.int .i64 n59)) ∧ ∃ (A60 : Option Addr) (m61 : Nat) (c62 : Nat), (∀ w' : World, S55 w'.heap → w'.cell? (x14.add 3) = some (.slice A60 m61 c62)) ∧ CallsE Tryd.prog 50 #[.agg #[.int .i64 n57, .int .i64 n58, .int .i64 n59, .slice A60 m61 c62]] w (fun v63 w64 => ∃ (n65 : Int), v63 = .int .i64 n65 ∧ S55 w64.heap ∧ ref11_From.p19 L0 K x0 x8 (IntKind.wrap .i64 (n56 + n65)) x14 x34A x34n x34c x35 x36 w64)
abbrev ref11_From.p17 (L0 : Int → Addr → Int → Option Addr → Nat → Nat → Int → Int → World → Prop) (K : Value → World → Prop) (x0 : Int) (x8 : Addr) (x14 : Addr) (x34A : Option Addr) (x34n : Nat) (x34c : Nat) (x35 : Int) (x36 : Int) (x92 : Bool) (w : World) : Prop :=
  condP x92 (K (.tuple #[.pointer none, .int .i64 4]) w) (ref11_From.p18 L0 K x0 x8 x14 x34A x34n x34c x35 x36 w)
abbrev ref11_From.p16 (L0 : Int → Addr → Int → Option Addr → Nat → Nat → Int → Int → World → Prop) (K : Value → World → Prop) (x0 : Int) (x8 : Addr) (x9 : Int) (x14 : Addr) (x34A : Option Addr) (x34n : Nat) (x34c : Nat) (x35 : Int) (x36 : Int) (w : World) : Prop :=
  ∃ (S53 : Array Obj → Prop), S53 w.heap ∧ ∃ (n54 : Int), (∀ w' : World, S53 w'.heap → w'.cell? x14 = some (.int .i64 n54)) ∧ condP (decide (n54 < x9)) (ref11_From.p17 L0 K x0 x8 x14 x34A x34n x34c x35 x36 true w) (∃ (n85 : Int), (∀ w' : World, S53 w'.heap → w'.cell? x14 = some (.int .i64 n85)) ∧ ∃ (n86 : Int), (∀ w' : World, S53 w'.heap → w'.cell? x14 = some (.int .i64 n86)) ∧ ∃ (n87 : Int), (∀ w' : World, S53 w'.heap → w'.cell? (x14.add 1) = some (.int .i64 n87)) ∧ ∃ (n88 : Int), (∀ w' : World, S53 w'.heap → w'.cell? (x14.add 2) = some (.int .i64 n88)) ∧ ∃ (A89 : Option Addr) (m90 : Nat) (c91 : Nat), (∀ w' : World, S53 w'.heap → w'.cell? (x14.add 3) = some (.slice A89 m90 c91)) ∧ CallsE Tryd.prog 50 #[.agg #[.int .i64 n86, .int .i64 n87, .int .i64 n88, .slice A89 m90 c91]] w (fun v92 w93 => ∃ (n94 : Int), v92 = .int .i64 n94 ∧ S53 w93.heap ∧ ref11_From.p17 L0 K x0 x8 x14 x34A x34n x34c x35 x36 (decide (x0 < (IntKind.wrap .i64 (n85 + n94)))) w93))
abbrev ref11_From.p13 (L1 : Int → Addr → Int → Option Addr → Addr → Option Addr → Nat → Nat → Int → Int → Int → Int → World → Prop) (L0 : Int → Addr → Int → Option Addr → Nat → Nat → Int → Int → World → Prop) (K : Value → World → Prop) (x0 : Int) (x8 : Addr) (x9 : Int) (x12 : Option Addr) (x14 : Addr) (x34A : Option Addr) (x34n : Nat) (x34c : Nat) (x35 : Int) (x36 : Int) (x64 : Int) (x65 : Int) (x66 : Bool) (w : World) : Prop :=
  condP x66 (ref11_From.p14 L1 L0 K x0 x8 x9 x12 x14 x34A x34n x34c x35 x36 x64 x65 w) (ref11_From.p16 L0 K x0 x8 x9 x14 x34A x34n x34c x35 x36 w)
abbrev ref11_From.b1 (L1 : Int → Addr → Int → Option Addr → Addr → Option Addr → Nat → Nat → Int → Int → Int → Int → World → Prop) (L0 : Int → Addr → Int → Option Addr → Nat → Nat → Int → Int → World → Prop) (K : Value → World → Prop) (x0 : Int) (x8 : Addr) (x9 : Int) (x12 : Option Addr) (x14 : Addr) (x34A : Option Addr) (x34n : Nat) (x34c : Nat) (x35 : Int) (x36 : Int) (x64 : Int) (x65 : Int) (w : World) : Prop :=
  ref11_From.p13 L1 L0 K x0 x8 x9 x12 x14 x34A x34n x34c x35 x36 x64 x65 (decide (x65 < x64)) w
def ref11_From.l1 (L0 : Int → Addr → Int → Option Addr → Nat → Nat → Int → Int → World → Prop) (K : Value → World → Prop) (k : Nat) : Int → Addr → Int → Option Addr → Addr → Option Addr → Nat → Nat → Int → Int → Int → Int → World → Prop :=
  Nat.rec (motive := fun _ => Int → Addr → Int → Option Addr → Addr → Option Addr → Nat → Nat → Int → Int → Int → Int → World → Prop) (fun _ _ _ _ _ _ _ _ _ _ _ _ _ => False) (fun _ ih => ref11_From.b1 ih L0 K) k
theorem ref11_From.l1_succ (L0 : Int → Addr → Int → Option Addr → Nat → Nat → Int → Int → World → Prop) (K : Value → World → Prop) (k : Nat) (x0 : Int) (x8 : Addr) (x9 : Int) (x12 : Option Addr) (x14 : Addr) (x34A : Option Addr) (x34n : Nat) (x34c : Nat) (x35 : Int) (x36 : Int) (x64 : Int) (x65 : Int) (w : World) : ref11_From.l1 L0 K (k + 1) x0 x8 x9 x12 x14 x34A x34n x34c x35 x36 x64 x65 w = ref11_From.b1 (ref11_From.l1 L0 K k) L0 K x0 x8 x9 x12 x14 x34A x34n x34c x35 x36 x64 x65 w := rfl
abbrev ref11_From.p12 (L0 : Int → Addr → Int → Option Addr → Nat → Nat → Int → Int → World → Prop) (K : Value → World → Prop) (x0 : Int) (x8 : Addr) (x9 : Int) (x12 : Option Addr) (x14 : Addr) (x34A : Option Addr) (x34n : Nat) (x34c : Nat) (x35 : Int) (x36 : Int) (x64 : Int) (x65 : Int) (w : World) : Prop :=
  ∃ k, ref11_From.l1 L0 K k x0 x8 x9 x12 x14 x34A x34n x34c x35 x36 x64 x65 w
abbrev ref11_From.p11 (L0 : Int → Addr → Int → Option Addr → Nat → Nat → Int → Int → World → Prop) (K : Value → World → Prop) (x0 : Int) (x8 : Addr) (x9 : Int) (x12 : Option Addr) (x14 : Addr) (x34A : Option Addr) (x34n : Nat) (x34c : Nat) (x35 : Int) (x36 : Int) (w : World) : Prop :=
  ∃ (a38 : Addr), x12 = some a38 ∧ ∃ (A39 : Option Addr) (m40 : Nat) (c41 : Nat), w.cell? (a38.add 3) = some (.slice A39 m40 c41) ∧ ref11_From.p12 L0 K x0 x8 x9 x12 x14 x34A x34n x34c x35 x36 ((m40 : Nat) : Int) 0 w
abbrev ref11_From.p10 (L0 : Int → Addr → Int → Option Addr → Nat → Nat → Int → Int → World → Prop) (K : Value → World → Prop) (x0 : Int) (x8 : Addr) (x9 : Int) (x11 : Addr) (x12 : Option Addr) (x34A : Option Addr) (x34n : Nat) (x34c : Nat) (x35 : Int) (x36 : Int) (w : World) : Prop :=
  ∃ (S24 : Array Obj → Prop), S24 w.heap ∧ ∃ (a25 : Addr), x12 = some a25 ∧ ∃ (n26 : Int), (∀ w' : World, S24 w'.heap → w'.cell? x11 = some (.int .i64 n26)) ∧ ∃ (n27 : Int), (∀ w' : World, S24 w'.heap → w'.cell? (x11.add 1) = some (.int .i64 n27)) ∧ ∃ (n28 : Int), (∀ w' : World, S24 w'.heap → w'.cell? (x11.add 2) = some (.int .i64 n28)) ∧ ∃ (A29 : Option Addr) (m30 : Nat) (c31 : Nat), (∀ w' : World, S24 w'.heap → w'.cell? (a25.add 3) = some (.slice A29 m30 c31)) ∧ ((0 ≤ ((m30 : Nat) : Int) ∧ ((m30 : Nat) : Int) ≤ ((m30 : Nat) : Int) ∧ (8 : Int) * ((m30 : Nat) : Int) ≤ 281474976710656 ∧ ((m30 : Nat) : Int) ≤ 9223372036854775807) ∧ wlet (w.alloc (.cells (madeCells #[.int .i64 0] (((m30 : Nat) : Int).toNat * 1)) 3)) fun w32 => S24 w32.heap ∧ (S24 w32.heap ∧ wlet (w32.alloc (.cells #[.int .i64 0, .int .i64 0, .int .i64 0, .slice none 0 0] 88)) fun w33 => S24 w33.heap ∧ canStore w33 (⟨w32.heap.size, 0, none⟩) ∧ wlet (w33.setCell (⟨w32.heap.size, 0, none⟩) (.int .i64 n26)) fun w34 => canStore w34 (⟨w32.heap.size, 1, none⟩) ∧ wlet (w34.setCell (⟨w32.heap.size, 1, none⟩) (.int .i64 n27)) fun w35 => canStore w35 (⟨w32.heap.size, 2, none⟩) ∧ wlet (w35.setCell (⟨w32.heap.size, 2, none⟩) (.int .i64 n28)) fun w36 => canStore w36 (⟨w32.heap.size, 3, none⟩) ∧ wlet (w36.setCell (⟨w32.heap.size, 3, none⟩) (.slice (some ⟨w.heap.size, 0, none⟩) (((m30 : Nat) : Int).toNat) (((m30 : Nat) : Int).toNat))) fun w37 => ref11_From.p11 L0 K x0 x8 x9 x12 (⟨w32.heap.size, 0, none⟩) x34A x34n x34c x35 x36 w37) ∧ (wlet (w32.alloc (.cells #[.int .i64 0, .int .i64 0, .int .i64 0, .slice none 0 0] 88)) fun w95 => S24 w95.heap ∧ S24 w95.heap ∧ canStore w95 (⟨w32.heap.size, 0, none⟩) ∧ wlet (w95.setCell (⟨w32.heap.size, 0, none⟩) (.int .i64 n26)) fun w96 => canStore w96 (⟨w32.heap.size, 1, none⟩) ∧ wlet (w96.setCell (⟨w32.heap.size, 1, none⟩) (.int .i64 n27)) fun w97 => canStore w97 (⟨w32.heap.size, 2, none⟩) ∧ wlet (w97.setCell (⟨w32.heap.size, 2, none⟩) (.int .i64 n28)) fun w98 => canStore w98 (⟨w32.heap.size, 3, none⟩) ∧ wlet (w98.setCell (⟨w32.heap.size, 3, none⟩) (.slice (some ⟨w.heap.size, 0, none⟩) (((m30 : Nat) : Int).toNat) (((m30 : Nat) : Int).toNat))) fun w99 => ref11_From.p11 L0 K x0 x8 x9 x12 (⟨w32.heap.size, 0, none⟩) x34A x34n x34c x35 x36 w99)) ∧ (wlet (w.alloc (.cells #[.int .i64 0, .int .i64 0, .int .i64 0, .slice none 0 0] 88)) fun w100 => S24 w100.heap ∧ (0 ≤ ((m30 : Nat) : Int) ∧ ((m30 : Nat) : Int) ≤ ((m30 : Nat) : Int) ∧ (8 : Int) * ((m30 : Nat) : Int) ≤ 281474976710656 ∧ ((m30 : Nat) : Int) ≤ 9223372036854775807) ∧ wlet (w100.alloc (.cells (madeCells #[.int .i64 0] (((m30 : Nat) : Int).toNat * 1)) 3)) fun w101 => S24 w101.heap ∧ S24 w101.heap ∧ canStore w101 (⟨w.heap.size, 0, none⟩) ∧ wlet (w101.setCell (⟨w.heap.size, 0, none⟩) (.int .i64 n26)) fun w102 => canStore w102 (⟨w.heap.size, 1, none⟩) ∧ wlet (w102.setCell (⟨w.heap.size, 1, none⟩) (.int .i64 n27)) fun w103 => canStore w103 (⟨w.heap.size, 2, none⟩) ∧ wlet (w103.setCell (⟨w.heap.size, 2, none⟩) (.int .i64 n28)) fun w104 => canStore w104 (⟨w.heap.size, 3, none⟩) ∧ wlet (w104.setCell (⟨w.heap.size, 3, none⟩) (.slice (some ⟨w100.heap.size, 0, none⟩) (((m30 : Nat) : Int).toNat) (((m30 : Nat) : Int).toNat))) fun w105 => ref11_From.p11 L0 K x0 x8 x9 x12 (⟨w.heap.size, 0, none⟩) x34A x34n x34c x35 x36 w105)
abbrev ref11_From.p9 (L0 : Int → Addr → Int → Option Addr → Nat → Nat → Int → Int → World → Prop) (K : Value → World → Prop) (x0 : Int) (x8 : Addr) (x9 : Int) (x11 : Addr) (x12 : Option Addr) (x13 : Int) (x34A : Option Addr) (x34n : Nat) (x34c : Nat) (x35 : Int) (x36 : Int) (w : World) : Prop :=
  condP (x13 != (0 : Int)) (K (.tuple #[.pointer none, .int .i64 4]) w) (ref11_From.p10 L0 K x0 x8 x9 x11 x12 x34A x34n x34c x35 x36 w)
abbrev ref11_From.p8 (L0 : Int → Addr → Int → Option Addr → Nat → Nat → Int → Int → World → Prop) (K : Value → World → Prop) (x0 : Int) (x8 : Addr) (x9 : Int) (x11 : Addr) (x34A : Option Addr) (x34n : Nat) (x34c : Nat) (x35 : Int) (x36 : Int) (w : World) : Prop :=
  ∃ (n14 : Int), w.cell? x11 = some (.int .i64 n14) ∧ ∃ (n15 : Int), w.cell? (x11.add 1) = some (.int .i64 n15) ∧ ∃ (n16 : Int), w.cell? (x11.add 2) = some (.int .i64 n16) ∧ ∃ (A17 : Option Addr) (m18 : Nat) (c19 : Nat), w.cell? (x11.add 3) = some (.slice A17 m18 c19) ∧ CallsE Tryd.prog 49 #[.agg #[.int .i64 n14, .int .i64 n15, .int .i64 n16, .slice A17 m18 c19]] w (fun v20 w21 => ∃ (p22 : Option Addr) (n23 : Int), v20 = .tuple #[.pointer p22, .int .i64 n23] ∧ ref11_From.p9 L0 K x0 x8 x9 x11 p22 n23 x34A x34n x34c x35 x36 w21)
abbrev ref11_From.p7 (L0 : Int → Addr → Int → Option Addr → Nat → Nat → Int → Int → World → Prop) (K : Value → World → Prop) (x0 : Int) (x8 : Addr) (x9 : Int) (x34A : Option Addr) (x34n : Nat) (x34c : Nat) (x35 : Int) (x36 : Int) (w : World) : Prop :=
  (0 ≤ x36 ∧ x36 < ((x34n : Nat) : Int)) ∧ ∃ (a2 : Addr), x34A = some a2 ∧ ∃ (n3 : Int), w.cell? (a2.add (x36.toNat * 4)) = some (.int .i64 n3) ∧ ∃ (n4 : Int), w.cell? ((a2.add (x36.toNat * 4)).add 1) = some (.int .i64 n4) ∧ ∃ (n5 : Int), w.cell? ((a2.add (x36.toNat * 4)).add 2) = some (.int .i64 n5) ∧ ∃ (A6 : Option Addr) (m7 : Nat) (c8 : Nat), w.cell? ((a2.add (x36.toNat * 4)).add 3) = some (.slice A6 m7 c8) ∧ wlet (w.alloc (.cells #[.int .i64 0, .int .i64 0, .int .i64 0, .slice none 0 0] 46)) fun w9 => canStore w9 (⟨w.heap.size, 0, none⟩) ∧ wlet (w9.setCell (⟨w.heap.size, 0, none⟩) (.int .i64 n3)) fun w10 => canStore w10 (⟨w.heap.size, 1, none⟩) ∧ wlet (w10.setCell (⟨w.heap.size, 1, none⟩) (.int .i64 n4)) fun w11 => canStore w11 (⟨w.heap.size, 2, none⟩) ∧ wlet (w11.setCell (⟨w.heap.size, 2, none⟩) (.int .i64 n5)) fun w12 => canStore w12 (⟨w.heap.size, 3, none⟩) ∧ wlet (w12.setCell (⟨w.heap.size, 3, none⟩) (.slice A6 m7 c8)) fun w13 => ref11_From.p8 L0 K x0 x8 x9 (⟨w.heap.size, 0, none⟩) x34A x34n x34c x35 x36 w13
abbrev ref11_From.p21 (K : Value → World → Prop) (x8 : Addr) (w : World) : Prop :=
  K (.tuple #[.pointer (some x8), .int .i64 0]) w
abbrev ref11_From.p6 (L0 : Int → Addr → Int → Option Addr → Nat → Nat → Int → Int → World → Prop) (K : Value → World → Prop) (x0 : Int) (x8 : Addr) (x9 : Int) (x34A : Option Addr) (x34n : Nat) (x34c : Nat) (x35 : Int) (x36 : Int) (x37 : Bool) (w : World) : Prop :=
  condP x37 (ref11_From.p7 L0 K x0 x8 x9 x34A x34n x34c x35 x36 w) (ref11_From.p21 K x8 w)
abbrev ref11_From.b0 (L0 : Int → Addr → Int → Option Addr → Nat → Nat → Int → Int → World → Prop) (K : Value → World → Prop) (x0 : Int) (x8 : Addr) (x9 : Int) (x34A : Option Addr) (x34n : Nat) (x34c : Nat) (x35 : Int) (x36 : Int) (w : World) : Prop :=
  ref11_From.p6 L0 K x0 x8 x9 x34A x34n x34c x35 x36 (decide (x36 < x35)) w
def ref11_From.l0 (K : Value → World → Prop) (k : Nat) : Int → Addr → Int → Option Addr → Nat → Nat → Int → Int → World → Prop :=
  Nat.rec (motive := fun _ => Int → Addr → Int → Option Addr → Nat → Nat → Int → Int → World → Prop) (fun _ _ _ _ _ _ _ _ _ => False) (fun _ ih => ref11_From.b0 ih K) k
theorem ref11_From.l0_succ (K : Value → World → Prop) (k : Nat) (x0 : Int) (x8 : Addr) (x9 : Int) (x34A : Option Addr) (x34n : Nat) (x34c : Nat) (x35 : Int) (x36 : Int) (w : World) : ref11_From.l0 K (k + 1) x0 x8 x9 x34A x34n x34c x35 x36 w = ref11_From.b0 (ref11_From.l0 K k) K x0 x8 x9 x34A x34n x34c x35 x36 w := rfl
abbrev ref11_From.p5 (K : Value → World → Prop) (x0 : Int) (x8 : Addr) (x9 : Int) (x34A : Option Addr) (x34n : Nat) (x34c : Nat) (x35 : Int) (x36 : Int) (w : World) : Prop :=
  ∃ k, ref11_From.l0 K k x0 x8 x9 x34A x34n x34c x35 x36 w
abbrev ref11_From.p4 (K : Value → World → Prop) (x0 : Int) (x2A : Option Addr) (x2n : Nat) (x2c : Nat) (x8 : Addr) (x9 : Int) (w : World) : Prop :=
  ref11_From.p5 K x0 x8 x9 x2A x2n x2c ((x2n : Nat) : Int) 0 w
abbrev ref11_From.p3 (K : Value → World → Prop) (x0 : Int) (x2A : Option Addr) (x2n : Nat) (x2c : Nat) (x8 : Addr) (w : World) : Prop :=
  ref11_From.p4 K x0 x2A x2n x2c x8 0 w
abbrev ref11_From.p2 (K : Value → World → Prop) (x0 : Int) (x1 : Int) (x2A : Option Addr) (x2n : Nat) (x2c : Nat) (w : World) : Prop :=
  wlet (w.alloc (.cells #[.int .i64 x0, .int .i64 x1, .slice none 0 0] 80)) fun w1 => ref11_From.p3 K x0 x2A x2n x2c (⟨w.heap.size, 0, none⟩) w1
abbrev ref11_From.p1 (K : Value → World → Prop) (x0 : Int) (x1 : Int) (x2A : Option Addr) (x2n : Nat) (x2c : Nat) (x29 : Bool) (w : World) : Prop :=
  condP x29 (K (.tuple #[.pointer none, .int .i64 2]) w) (ref11_From.p2 K x0 x1 x2A x2n x2c w)
abbrev ref11_From.p0 (K : Value → World → Prop) (x0 : Int) (x1 : Int) (x2A : Option Addr) (x2n : Nat) (x2c : Nat) (w : World) : Prop :=
  condP (decide (x0 < (1 : Int))) (ref11_From.p1 K x0 x1 x2A x2n x2c true w) (condP (decide ((4096 : Int) < x0)) (ref11_From.p1 K x0 x1 x2A x2n x2c true w) (condP (decide (x1 < (1 : Int))) (ref11_From.p1 K x0 x1 x2A x2n x2c true w) (ref11_From.p1 K x0 x1 x2A x2n x2c (decide ((8 : Int) < x1)) w)))
abbrev ref11_From.F (q0 : Int) (q1 : Int) (q2A : Option Addr) (q2n : Nat) (q2c : Nat) (K : Value → World → Prop) (w : World) : Prop :=
  ref11_From.p0 K q0 q1 q2A q2n q2c w
theorem ref11_From.ok {q0 : Int} {q1 : Int} {q2A : Option Addr} {q2n : Nat} {q2c : Nat} {K : Value → World → Prop} {w : World} (h : ref11_From.F q0 q1 q2A q2n q2c K w) :
    CallsE Tryd.prog 30 #[.int .i64 q0, .int .i64 q1, .slice q2A q2n q2c] w K := by
  refine calls_of_J (n := 110) (rs := [.tmp 6, .tmp 7]) Tryd.func30 rfl rfl rfl rfl ?_
  refine J_seq (fun σ w => vI .i64 (σ 0) fun x0 => vI .i64 (σ 1) fun x1 => vS (σ 2) fun x2A x2n x2c => ref11_From.p0 K x0 x1 x2A x2n x2c w) ?_ ?_
  ·
    exact sh_sound _ _ _ _ (Eq.mp (by kernel_rfl) h)
  · intro σ w h
    obtain ⟨x0, e0, h⟩ := vI_elim h
    obtain ⟨x1, e1, h⟩ := vI_elim h
    obtain ⟨x2A, x2n, x2c, e2, h⟩ := vS_elim h
    refine J.sub ?_ ((((Sub.base _).upd e0).upd e1).upd e2)
    clear e0 e1 e2
    refine J_seq (fun σ w => vI .i64 (σ 0) fun x0 => vI .i64 (σ 1) fun x1 => vS (σ 2) fun x2A x2n x2c => ref11_From.p2 K x0 x1 x2A x2n x2c w) ?_ ?_
    ·
      refine J_seq (fun σ w => vI .i64 (σ 0) fun x0 => vI .i64 (σ 1) fun x1 => vS (σ 2) fun x2A x2n x2c => vB (σ 29) fun x29 => ref11_From.p1 K x0 x1 x2A x2n x2c x29 w) ?_ ?_
      ·
        exact sh_sound _ _ _ _ (Eq.mp (by kernel_rfl) h)
      · intro σ w h
        obtain ⟨x0, e0, h⟩ := vI_elim h
        obtain ⟨x1, e1, h⟩ := vI_elim h
        obtain ⟨x2A, x2n, x2c, e2, h⟩ := vS_elim h
        obtain ⟨x29, e29, h⟩ := vB_elim h
        refine J.sub ?_ (((((Sub.base _).upd e0).upd e1).upd e2).upd e29)
        clear e0 e1 e2 e29
        exact sh_sound _ _ _ _ (Eq.mp (by kernel_rfl) h)
    · intro σ w h
      obtain ⟨x0, e0, h⟩ := vI_elim h
      obtain ⟨x1, e1, h⟩ := vI_elim h
      obtain ⟨x2A, x2n, x2c, e2, h⟩ := vS_elim h
      refine J.sub ?_ ((((Sub.base _).upd e0).upd e1).upd e2)
      clear e0 e1 e2
      refine J_seq (fun σ w => vI .i64 (σ 0) fun x0 => vS (σ 2) fun x2A x2n x2c => vPa (σ 8) fun x8 => ref11_From.p3 K x0 x2A x2n x2c x8 w) ?_ ?_
      ·
        exact sh_sound _ _ _ _ (Eq.mp (by kernel_rfl) h)
      · intro σ w h
        obtain ⟨x0, e0, h⟩ := vI_elim h
        obtain ⟨x2A, x2n, x2c, e2, h⟩ := vS_elim h
        obtain ⟨x8, e8, h⟩ := vPa_elim h
        refine J.sub ?_ ((((Sub.base _).upd e0).upd e2).upd e8)
        clear e0 e2 e8
        refine J_seq (fun σ w => vI .i64 (σ 0) fun x0 => vS (σ 2) fun x2A x2n x2c => vPa (σ 8) fun x8 => vI .i64 (σ 9) fun x9 => ref11_From.p4 K x0 x2A x2n x2c x8 x9 w) ?_ ?_
        ·
          exact sh_sound _ _ _ _ (Eq.mp (by kernel_rfl) h)
        · intro σ w h
          obtain ⟨x0, e0, h⟩ := vI_elim h
          obtain ⟨x2A, x2n, x2c, e2, h⟩ := vS_elim h
          obtain ⟨x8, e8, h⟩ := vPa_elim h
          obtain ⟨x9, e9, h⟩ := vI_elim h
          refine J.sub ?_ (((((Sub.base _).upd e0).upd e2).upd e8).upd e9)
          clear e0 e2 e8 e9
          refine J_seq (fun σ w => vPa (σ 8) fun x8 => ref11_From.p21 K x8 w) ?_ ?_
          ·
            refine J_seq (fun σ w => vI .i64 (σ 0) fun x0 => vPa (σ 8) fun x8 => vI .i64 (σ 9) fun x9 => vS (σ 34) fun x34A x34n x34c => vI .i64 (σ 35) fun x35 => vI .i64 (σ 36) fun x36 => ref11_From.p5 K x0 x8 x9 x34A x34n x34c x35 x36 w) ?_ ?_
            ·
              exact sh_sound _ _ _ _ (Eq.mp (by kernel_rfl) h)
            · intro σ w h
              obtain ⟨x0, e0, h⟩ := vI_elim h
              obtain ⟨x8, e8, h⟩ := vPa_elim h
              obtain ⟨x9, e9, h⟩ := vI_elim h
              obtain ⟨x34A, x34n, x34c, e34, h⟩ := vS_elim h
              obtain ⟨x35, e35, h⟩ := vI_elim h
              obtain ⟨x36, e36, h⟩ := vI_elim h
              refine J.sub ?_ (((((((Sub.base _).upd e0).upd e8).upd e9).upd e34).upd e35).upd e36)
              clear e0 e8 e9 e34 e35 e36
              refine J_block ?_
              refine J_loop (fun k σ w => vI .i64 (σ 0) fun x0 => vPa (σ 8) fun x8 => vI .i64 (σ 9) fun x9 => vS (σ 34) fun x34A x34n x34c => vI .i64 (σ 35) fun x35 => vI .i64 (σ 36) fun x36 => ref11_From.l0 K k x0 x8 x9 x34A x34n x34c x35 x36 w) (Eq.mp (by kernel_rfl) h) ?_ ?_
              · intro σ w h
                obtain ⟨x0, e0, h⟩ := vI_elim h
                obtain ⟨x8, e8, h⟩ := vPa_elim h
                obtain ⟨x9, e9, h⟩ := vI_elim h
                obtain ⟨x34A, x34n, x34c, e34, h⟩ := vS_elim h
                obtain ⟨x35, e35, h⟩ := vI_elim h
                obtain ⟨x36, e36, h⟩ := vI_elim h
                exact h
              · intro k0 σ w h
                obtain ⟨x0, e0, h⟩ := vI_elim h
                obtain ⟨x8, e8, h⟩ := vPa_elim h
                obtain ⟨x9, e9, h⟩ := vI_elim h
                obtain ⟨x34A, x34n, x34c, e34, h⟩ := vS_elim h
                obtain ⟨x35, e35, h⟩ := vI_elim h
                obtain ⟨x36, e36, h⟩ := vI_elim h
                refine J.sub ?_ (((((((Sub.base _).upd e0).upd e8).upd e9).upd e34).upd e35).upd e36)
                clear e0 e8 e9 e34 e35 e36
                refine J_seq (fun σ w => vI .i64 (σ 0) fun x0 => vPa (σ 8) fun x8 => vI .i64 (σ 9) fun x9 => vS (σ 34) fun x34A x34n x34c => vI .i64 (σ 35) fun x35 => vI .i64 (σ 36) fun x36 => vB (σ 37) fun x37 => ref11_From.p6 (ref11_From.l0 K k0) K x0 x8 x9 x34A x34n x34c x35 x36 x37 w) ?_ ?_
                ·
                  exact sh_sound _ _ _ _ (Eq.mp (by kernel_rfl) h)
                · intro σ w h
                  obtain ⟨x0, e0, h⟩ := vI_elim h
                  obtain ⟨x8, e8, h⟩ := vPa_elim h
                  obtain ⟨x9, e9, h⟩ := vI_elim h
                  obtain ⟨x34A, x34n, x34c, e34, h⟩ := vS_elim h
                  obtain ⟨x35, e35, h⟩ := vI_elim h
                  obtain ⟨x36, e36, h⟩ := vI_elim h
                  obtain ⟨x37, e37, h⟩ := vB_elim h
                  refine J.sub ?_ ((((((((Sub.base _).upd e0).upd e8).upd e9).upd e34).upd e35).upd e36).upd e37)
                  clear e0 e8 e9 e34 e35 e36 e37
                  refine J_seq (fun σ w => vI .i64 (σ 0) fun x0 => vPa (σ 8) fun x8 => vI .i64 (σ 9) fun x9 => vS (σ 34) fun x34A x34n x34c => vI .i64 (σ 35) fun x35 => vI .i64 (σ 36) fun x36 => ref11_From.p7 (ref11_From.l0 K k0) K x0 x8 x9 x34A x34n x34c x35 x36 w) ?_ ?_
                  ·
                    exact sh_sound _ _ _ _ (Eq.mp (by kernel_rfl) h)
                  · intro σ w h
                    obtain ⟨x0, e0, h⟩ := vI_elim h
                    obtain ⟨x8, e8, h⟩ := vPa_elim h
                    obtain ⟨x9, e9, h⟩ := vI_elim h
                    obtain ⟨x34A, x34n, x34c, e34, h⟩ := vS_elim h
                    obtain ⟨x35, e35, h⟩ := vI_elim h
                    obtain ⟨x36, e36, h⟩ := vI_elim h
                    refine J.sub ?_ (((((((Sub.base _).upd e0).upd e8).upd e9).upd e34).upd e35).upd e36)
                    clear e0 e8 e9 e34 e35 e36
                    refine J_seq (fun σ w => vI .i64 (σ 0) fun x0 => vPa (σ 8) fun x8 => vI .i64 (σ 9) fun x9 => vS (σ 34) fun x34A x34n x34c => vI .i64 (σ 35) fun x35 => vI .i64 (σ 36) fun x36 => ref11_From.p20 (ref11_From.l0 K k0) K x0 x8 x9 x34A x34n x34c x35 x36 w) ?_ ?_
                    ·
                      refine J_block ?_
                      refine J_seq (fun σ w => vI .i64 (σ 0) fun x0 => vPa (σ 8) fun x8 => vI .i64 (σ 9) fun x9 => vPa (σ 11) fun x11 => vS (σ 34) fun x34A x34n x34c => vI .i64 (σ 35) fun x35 => vI .i64 (σ 36) fun x36 => ref11_From.p8 (ref11_From.l0 K k0) K x0 x8 x9 x11 x34A x34n x34c x35 x36 w) ?_ ?_
                      ·
                        exact sh_sound _ _ _ _ (Eq.mp (by kernel_rfl) h)
                      · intro σ w h
                        obtain ⟨x0, e0, h⟩ := vI_elim h
                        obtain ⟨x8, e8, h⟩ := vPa_elim h
                        obtain ⟨x9, e9, h⟩ := vI_elim h
                        obtain ⟨x11, e11, h⟩ := vPa_elim h
                        obtain ⟨x34A, x34n, x34c, e34, h⟩ := vS_elim h
                        obtain ⟨x35, e35, h⟩ := vI_elim h
                        obtain ⟨x36, e36, h⟩ := vI_elim h
                        refine J.sub ?_ ((((((((Sub.base _).upd e0).upd e8).upd e9).upd e11).upd e34).upd e35).upd e36)
                        clear e0 e8 e9 e11 e34 e35 e36
                        refine J_seq (fun σ w => vI .i64 (σ 0) fun x0 => vPa (σ 8) fun x8 => vI .i64 (σ 9) fun x9 => vPa (σ 11) fun x11 => vP (σ 12) fun x12 => vI .i64 (σ 13) fun x13 => vS (σ 34) fun x34A x34n x34c => vI .i64 (σ 35) fun x35 => vI .i64 (σ 36) fun x36 => ref11_From.p9 (ref11_From.l0 K k0) K x0 x8 x9 x11 x12 x13 x34A x34n x34c x35 x36 w) ?_ ?_
                        ·
                          exact sh_sound _ _ _ _ (Eq.mp (by kernel_rfl) h)
                        · intro σ w h
                          obtain ⟨x0, e0, h⟩ := vI_elim h
                          obtain ⟨x8, e8, h⟩ := vPa_elim h
                          obtain ⟨x9, e9, h⟩ := vI_elim h
                          obtain ⟨x11, e11, h⟩ := vPa_elim h
                          obtain ⟨x12, e12, h⟩ := vP_elim h
                          obtain ⟨x13, e13, h⟩ := vI_elim h
                          obtain ⟨x34A, x34n, x34c, e34, h⟩ := vS_elim h
                          obtain ⟨x35, e35, h⟩ := vI_elim h
                          obtain ⟨x36, e36, h⟩ := vI_elim h
                          refine J.sub ?_ ((((((((((Sub.base _).upd e0).upd e8).upd e9).upd e11).upd e12).upd e13).upd e34).upd e35).upd e36)
                          clear e0 e8 e9 e11 e12 e13 e34 e35 e36
                          refine J_seq (fun σ w => vI .i64 (σ 0) fun x0 => vPa (σ 8) fun x8 => vI .i64 (σ 9) fun x9 => vPa (σ 11) fun x11 => vP (σ 12) fun x12 => vS (σ 34) fun x34A x34n x34c => vI .i64 (σ 35) fun x35 => vI .i64 (σ 36) fun x36 => ref11_From.p10 (ref11_From.l0 K k0) K x0 x8 x9 x11 x12 x34A x34n x34c x35 x36 w) ?_ ?_
                          ·
                            exact sh_sound _ _ _ _ (Eq.mp (by kernel_rfl) h)
                          · intro σ w h
                            obtain ⟨x0, e0, h⟩ := vI_elim h
                            obtain ⟨x8, e8, h⟩ := vPa_elim h
                            obtain ⟨x9, e9, h⟩ := vI_elim h
                            obtain ⟨x11, e11, h⟩ := vPa_elim h
                            obtain ⟨x12, e12, h⟩ := vP_elim h
                            obtain ⟨x34A, x34n, x34c, e34, h⟩ := vS_elim h
                            obtain ⟨x35, e35, h⟩ := vI_elim h
                            obtain ⟨x36, e36, h⟩ := vI_elim h
                            refine J.sub ?_ (((((((((Sub.base _).upd e0).upd e8).upd e9).upd e11).upd e12).upd e34).upd e35).upd e36)
                            clear e0 e8 e9 e11 e12 e34 e35 e36
                            refine J_seq (fun σ w => vI .i64 (σ 0) fun x0 => vPa (σ 8) fun x8 => vI .i64 (σ 9) fun x9 => vP (σ 12) fun x12 => vPa (σ 14) fun x14 => vS (σ 34) fun x34A x34n x34c => vI .i64 (σ 35) fun x35 => vI .i64 (σ 36) fun x36 => ref11_From.p11 (ref11_From.l0 K k0) K x0 x8 x9 x12 x14 x34A x34n x34c x35 x36 w) ?_ ?_
                            ·
                              exact J_heldT [14] (.step 0 0 (.step 2 0 (.step 4 0 (.step 6 0 (.step 7 0 (.step 8 0 (.step 1 1 (.step 3 1 (.step 5 1 (.step 9 1 (.step 10 0 (.fork 11 (.fork 12 (.step 13 2 (.step 14 3 .done)) 13 (.step 12 2 (.step 14 3 .done))) 13 (.step 11 2 (.step 12 2 (.step 14 3 .done))))))))))))))) (by kernel_rfl) (Eq.mp (by kernel_rfl) h)
                            · intro σ w h
                              obtain ⟨x0, e0, h⟩ := vI_elim h
                              obtain ⟨x8, e8, h⟩ := vPa_elim h
                              obtain ⟨x9, e9, h⟩ := vI_elim h
                              obtain ⟨x12, e12, h⟩ := vP_elim h
                              obtain ⟨x14, e14, h⟩ := vPa_elim h
                              obtain ⟨x34A, x34n, x34c, e34, h⟩ := vS_elim h
                              obtain ⟨x35, e35, h⟩ := vI_elim h
                              obtain ⟨x36, e36, h⟩ := vI_elim h
                              refine J.sub ?_ (((((((((Sub.base _).upd e0).upd e8).upd e9).upd e12).upd e14).upd e34).upd e35).upd e36)
                              clear e0 e8 e9 e12 e14 e34 e35 e36
                              refine J_seq (fun σ w => vI .i64 (σ 0) fun x0 => vPa (σ 8) fun x8 => vI .i64 (σ 9) fun x9 => vPa (σ 14) fun x14 => vS (σ 34) fun x34A x34n x34c => vI .i64 (σ 35) fun x35 => vI .i64 (σ 36) fun x36 => ref11_From.p16 (ref11_From.l0 K k0) K x0 x8 x9 x14 x34A x34n x34c x35 x36 w) ?_ ?_
                              ·
                                refine J_seq (fun σ w => vI .i64 (σ 0) fun x0 => vPa (σ 8) fun x8 => vI .i64 (σ 9) fun x9 => vP (σ 12) fun x12 => vPa (σ 14) fun x14 => vS (σ 34) fun x34A x34n x34c => vI .i64 (σ 35) fun x35 => vI .i64 (σ 36) fun x36 => vI .i64 (σ 64) fun x64 => vI .i64 (σ 65) fun x65 => ref11_From.p12 (ref11_From.l0 K k0) K x0 x8 x9 x12 x14 x34A x34n x34c x35 x36 x64 x65 w) ?_ ?_
                                ·
                                  exact sh_sound _ _ _ _ (Eq.mp (by kernel_rfl) h)
                                · intro σ w h
                                  obtain ⟨x0, e0, h⟩ := vI_elim h
                                  obtain ⟨x8, e8, h⟩ := vPa_elim h
                                  obtain ⟨x9, e9, h⟩ := vI_elim h
                                  obtain ⟨x12, e12, h⟩ := vP_elim h
                                  obtain ⟨x14, e14, h⟩ := vPa_elim h
                                  obtain ⟨x34A, x34n, x34c, e34, h⟩ := vS_elim h
                                  obtain ⟨x35, e35, h⟩ := vI_elim h
                                  obtain ⟨x36, e36, h⟩ := vI_elim h
                                  obtain ⟨x64, e64, h⟩ := vI_elim h
                                  obtain ⟨x65, e65, h⟩ := vI_elim h
                                  refine J.sub ?_ (((((((((((Sub.base _).upd e0).upd e8).upd e9).upd e12).upd e14).upd e34).upd e35).upd e36).upd e64).upd e65)
                                  clear e0 e8 e9 e12 e14 e34 e35 e36 e64 e65
                                  refine J_block ?_
                                  refine J_loop (fun k σ w => vI .i64 (σ 0) fun x0 => vPa (σ 8) fun x8 => vI .i64 (σ 9) fun x9 => vP (σ 12) fun x12 => vPa (σ 14) fun x14 => vS (σ 34) fun x34A x34n x34c => vI .i64 (σ 35) fun x35 => vI .i64 (σ 36) fun x36 => vI .i64 (σ 64) fun x64 => vI .i64 (σ 65) fun x65 => ref11_From.l1 (ref11_From.l0 K k0) K k x0 x8 x9 x12 x14 x34A x34n x34c x35 x36 x64 x65 w) (Eq.mp (by kernel_rfl) h) ?_ ?_
                                  · intro σ w h
                                    obtain ⟨x0, e0, h⟩ := vI_elim h
                                    obtain ⟨x8, e8, h⟩ := vPa_elim h
                                    obtain ⟨x9, e9, h⟩ := vI_elim h
                                    obtain ⟨x12, e12, h⟩ := vP_elim h
                                    obtain ⟨x14, e14, h⟩ := vPa_elim h
                                    obtain ⟨x34A, x34n, x34c, e34, h⟩ := vS_elim h
                                    obtain ⟨x35, e35, h⟩ := vI_elim h
                                    obtain ⟨x36, e36, h⟩ := vI_elim h
                                    obtain ⟨x64, e64, h⟩ := vI_elim h
                                    obtain ⟨x65, e65, h⟩ := vI_elim h
                                    exact h
                                  · intro k1 σ w h
                                    obtain ⟨x0, e0, h⟩ := vI_elim h
                                    obtain ⟨x8, e8, h⟩ := vPa_elim h
                                    obtain ⟨x9, e9, h⟩ := vI_elim h
                                    obtain ⟨x12, e12, h⟩ := vP_elim h
                                    obtain ⟨x14, e14, h⟩ := vPa_elim h
                                    obtain ⟨x34A, x34n, x34c, e34, h⟩ := vS_elim h
                                    obtain ⟨x35, e35, h⟩ := vI_elim h
                                    obtain ⟨x36, e36, h⟩ := vI_elim h
                                    obtain ⟨x64, e64, h⟩ := vI_elim h
                                    obtain ⟨x65, e65, h⟩ := vI_elim h
                                    refine J.sub ?_ (((((((((((Sub.base _).upd e0).upd e8).upd e9).upd e12).upd e14).upd e34).upd e35).upd e36).upd e64).upd e65)
                                    clear e0 e8 e9 e12 e14 e34 e35 e36 e64 e65
                                    refine J_seq (fun σ w => vI .i64 (σ 0) fun x0 => vPa (σ 8) fun x8 => vI .i64 (σ 9) fun x9 => vP (σ 12) fun x12 => vPa (σ 14) fun x14 => vS (σ 34) fun x34A x34n x34c => vI .i64 (σ 35) fun x35 => vI .i64 (σ 36) fun x36 => vI .i64 (σ 64) fun x64 => vI .i64 (σ 65) fun x65 => vB (σ 66) fun x66 => ref11_From.p13 (ref11_From.l1 (ref11_From.l0 K k0) K k1) (ref11_From.l0 K k0) K x0 x8 x9 x12 x14 x34A x34n x34c x35 x36 x64 x65 x66 w) ?_ ?_
                                    ·
                                      exact sh_sound _ _ _ _ (Eq.mp (by kernel_rfl) h)
                                    · intro σ w h
                                      obtain ⟨x0, e0, h⟩ := vI_elim h
                                      obtain ⟨x8, e8, h⟩ := vPa_elim h
                                      obtain ⟨x9, e9, h⟩ := vI_elim h
                                      obtain ⟨x12, e12, h⟩ := vP_elim h
                                      obtain ⟨x14, e14, h⟩ := vPa_elim h
                                      obtain ⟨x34A, x34n, x34c, e34, h⟩ := vS_elim h
                                      obtain ⟨x35, e35, h⟩ := vI_elim h
                                      obtain ⟨x36, e36, h⟩ := vI_elim h
                                      obtain ⟨x64, e64, h⟩ := vI_elim h
                                      obtain ⟨x65, e65, h⟩ := vI_elim h
                                      obtain ⟨x66, e66, h⟩ := vB_elim h
                                      refine J.sub ?_ ((((((((((((Sub.base _).upd e0).upd e8).upd e9).upd e12).upd e14).upd e34).upd e35).upd e36).upd e64).upd e65).upd e66)
                                      clear e0 e8 e9 e12 e14 e34 e35 e36 e64 e65 e66
                                      refine J_seq (fun σ w => vI .i64 (σ 0) fun x0 => vPa (σ 8) fun x8 => vI .i64 (σ 9) fun x9 => vP (σ 12) fun x12 => vPa (σ 14) fun x14 => vS (σ 34) fun x34A x34n x34c => vI .i64 (σ 35) fun x35 => vI .i64 (σ 36) fun x36 => vI .i64 (σ 64) fun x64 => vI .i64 (σ 65) fun x65 => ref11_From.p14 (ref11_From.l1 (ref11_From.l0 K k0) K k1) (ref11_From.l0 K k0) K x0 x8 x9 x12 x14 x34A x34n x34c x35 x36 x64 x65 w) ?_ ?_
                                      ·
                                        exact sh_sound _ _ _ _ (Eq.mp (by kernel_rfl) h)
                                      · intro σ w h
                                        obtain ⟨x0, e0, h⟩ := vI_elim h
                                        obtain ⟨x8, e8, h⟩ := vPa_elim h
                                        obtain ⟨x9, e9, h⟩ := vI_elim h
                                        obtain ⟨x12, e12, h⟩ := vP_elim h
                                        obtain ⟨x14, e14, h⟩ := vPa_elim h
                                        obtain ⟨x34A, x34n, x34c, e34, h⟩ := vS_elim h
                                        obtain ⟨x35, e35, h⟩ := vI_elim h
                                        obtain ⟨x36, e36, h⟩ := vI_elim h
                                        obtain ⟨x64, e64, h⟩ := vI_elim h
                                        obtain ⟨x65, e65, h⟩ := vI_elim h
                                        refine J.sub ?_ (((((((((((Sub.base _).upd e0).upd e8).upd e9).upd e12).upd e14).upd e34).upd e35).upd e36).upd e64).upd e65)
                                        clear e0 e8 e9 e12 e14 e34 e35 e36 e64 e65
                                        refine J_seq (fun σ w => vI .i64 (σ 0) fun x0 => vPa (σ 8) fun x8 => vI .i64 (σ 9) fun x9 => vP (σ 12) fun x12 => vPa (σ 14) fun x14 => vS (σ 34) fun x34A x34n x34c => vI .i64 (σ 35) fun x35 => vI .i64 (σ 36) fun x36 => vI .i64 (σ 64) fun x64 => vI .i64 (σ 65) fun x65 => ref11_From.p15 (ref11_From.l1 (ref11_From.l0 K k0) K k1) (ref11_From.l0 K k0) K x0 x8 x9 x12 x14 x34A x34n x34c x35 x36 x64 x65 w) ?_ ?_
                                        ·
                                          exact sh_sound _ _ _ _ (Eq.mp (by kernel_rfl) h)
                                        · intro σ w h
                                          obtain ⟨x0, e0, h⟩ := vI_elim h
                                          obtain ⟨x8, e8, h⟩ := vPa_elim h
                                          obtain ⟨x9, e9, h⟩ := vI_elim h
                                          obtain ⟨x12, e12, h⟩ := vP_elim h
                                          obtain ⟨x14, e14, h⟩ := vPa_elim h
                                          obtain ⟨x34A, x34n, x34c, e34, h⟩ := vS_elim h
                                          obtain ⟨x35, e35, h⟩ := vI_elim h
                                          obtain ⟨x36, e36, h⟩ := vI_elim h
                                          obtain ⟨x64, e64, h⟩ := vI_elim h
                                          obtain ⟨x65, e65, h⟩ := vI_elim h
                                          refine J.sub ?_ (((((((((((Sub.base _).upd e0).upd e8).upd e9).upd e12).upd e14).upd e34).upd e35).upd e36).upd e64).upd e65)
                                          clear e0 e8 e9 e12 e14 e34 e35 e36 e64 e65
                                          exact sh_sound _ _ _ _ (Eq.mp (by kernel_rfl) h)
                              · intro σ w h
                                obtain ⟨x0, e0, h⟩ := vI_elim h
                                obtain ⟨x8, e8, h⟩ := vPa_elim h
                                obtain ⟨x9, e9, h⟩ := vI_elim h
                                obtain ⟨x14, e14, h⟩ := vPa_elim h
                                obtain ⟨x34A, x34n, x34c, e34, h⟩ := vS_elim h
                                obtain ⟨x35, e35, h⟩ := vI_elim h
                                obtain ⟨x36, e36, h⟩ := vI_elim h
                                refine J.sub ?_ ((((((((Sub.base _).upd e0).upd e8).upd e9).upd e14).upd e34).upd e35).upd e36)
                                clear e0 e8 e9 e14 e34 e35 e36
                                refine J_seq (fun σ w => vI .i64 (σ 0) fun x0 => vPa (σ 8) fun x8 => vPa (σ 14) fun x14 => vS (σ 34) fun x34A x34n x34c => vI .i64 (σ 35) fun x35 => vI .i64 (σ 36) fun x36 => ref11_From.p18 (ref11_From.l0 K k0) K x0 x8 x14 x34A x34n x34c x35 x36 w) ?_ ?_
                                ·
                                  refine J_seq (fun σ w => vI .i64 (σ 0) fun x0 => vPa (σ 8) fun x8 => vPa (σ 14) fun x14 => vS (σ 34) fun x34A x34n x34c => vI .i64 (σ 35) fun x35 => vI .i64 (σ 36) fun x36 => vB (σ 92) fun x92 => ref11_From.p17 (ref11_From.l0 K k0) K x0 x8 x14 x34A x34n x34c x35 x36 x92 w) ?_ ?_
                                  ·
                                    exact J_held [] [(0, 0), (2, 0), (1, 1), (3, 0), (4, 0), (5, 0), (10, 0), (6, 1), (7, 1), (8, 2), (9, 0), (11, 0), (12, 0)] (by kernel_rfl) (Eq.mp (by kernel_rfl) h)
                                  · intro σ w h
                                    obtain ⟨x0, e0, h⟩ := vI_elim h
                                    obtain ⟨x8, e8, h⟩ := vPa_elim h
                                    obtain ⟨x14, e14, h⟩ := vPa_elim h
                                    obtain ⟨x34A, x34n, x34c, e34, h⟩ := vS_elim h
                                    obtain ⟨x35, e35, h⟩ := vI_elim h
                                    obtain ⟨x36, e36, h⟩ := vI_elim h
                                    obtain ⟨x92, e92, h⟩ := vB_elim h
                                    refine J.sub ?_ ((((((((Sub.base _).upd e0).upd e8).upd e14).upd e34).upd e35).upd e36).upd e92)
                                    clear e0 e8 e14 e34 e35 e36 e92
                                    exact sh_sound _ _ _ _ (Eq.mp (by kernel_rfl) h)
                                · intro σ w h
                                  obtain ⟨x0, e0, h⟩ := vI_elim h
                                  obtain ⟨x8, e8, h⟩ := vPa_elim h
                                  obtain ⟨x14, e14, h⟩ := vPa_elim h
                                  obtain ⟨x34A, x34n, x34c, e34, h⟩ := vS_elim h
                                  obtain ⟨x35, e35, h⟩ := vI_elim h
                                  obtain ⟨x36, e36, h⟩ := vI_elim h
                                  refine J.sub ?_ (((((((Sub.base _).upd e0).upd e8).upd e14).upd e34).upd e35).upd e36)
                                  clear e0 e8 e14 e34 e35 e36
                                  refine J_seq (fun σ w => vI .i64 (σ 0) fun x0 => vPa (σ 8) fun x8 => vI .i64 (σ 9) fun x9 => vPa (σ 14) fun x14 => vS (σ 34) fun x34A x34n x34c => vI .i64 (σ 35) fun x35 => vI .i64 (σ 36) fun x36 => ref11_From.p19 (ref11_From.l0 K k0) K x0 x8 x9 x14 x34A x34n x34c x35 x36 w) ?_ ?_
                                  ·
                                    exact J_held [] [(0, 0), (1, 1), (2, 1), (3, 2), (4, 0), (5, 0)] (by kernel_rfl) (Eq.mp (by kernel_rfl) h)
                                  · intro σ w h
                                    obtain ⟨x0, e0, h⟩ := vI_elim h
                                    obtain ⟨x8, e8, h⟩ := vPa_elim h
                                    obtain ⟨x9, e9, h⟩ := vI_elim h
                                    obtain ⟨x14, e14, h⟩ := vPa_elim h
                                    obtain ⟨x34A, x34n, x34c, e34, h⟩ := vS_elim h
                                    obtain ⟨x35, e35, h⟩ := vI_elim h
                                    obtain ⟨x36, e36, h⟩ := vI_elim h
                                    refine J.sub ?_ ((((((((Sub.base _).upd e0).upd e8).upd e9).upd e14).upd e34).upd e35).upd e36)
                                    clear e0 e8 e9 e14 e34 e35 e36
                                    exact J_held [10] [(0, 0), (1, 0), (2, 0), (3, 0), (4, 1), (5, 1), (6, 2), (7, 2), (8, 0), (9, 0), (10, 3)] (by kernel_rfl) (Eq.mp (by kernel_rfl) h)
                    · intro σ w h
                      obtain ⟨x0, e0, h⟩ := vI_elim h
                      obtain ⟨x8, e8, h⟩ := vPa_elim h
                      obtain ⟨x9, e9, h⟩ := vI_elim h
                      obtain ⟨x34A, x34n, x34c, e34, h⟩ := vS_elim h
                      obtain ⟨x35, e35, h⟩ := vI_elim h
                      obtain ⟨x36, e36, h⟩ := vI_elim h
                      refine J.sub ?_ (((((((Sub.base _).upd e0).upd e8).upd e9).upd e34).upd e35).upd e36)
                      clear e0 e8 e9 e34 e35 e36
                      exact sh_sound _ _ _ _ (Eq.mp (by kernel_rfl) h)
          · intro σ w h
            obtain ⟨x8, e8, h⟩ := vPa_elim h
            refine J.sub ?_ ((Sub.base _).upd e8)
            clear e8
            exact sh_sound _ _ _ _ (Eq.mp (by kernel_rfl) h)

/-! ### hayloft/hayloftref10.Same: function 31 -/
abbrev ref10_Same.p1 (K : Value → World → Prop) (x4 : Bool) (w : World) : Prop :=
  K (.bool x4) w
abbrev ref10_Same.p0 (K : Value → World → Prop) (x2 : Addr) (x3 : Addr) (w : World) : Prop :=
  ∃ (n3 : Int), w.cell? x2 = some (.int .i64 n3) ∧ ∃ (n4 : Int), w.cell? x3 = some (.int .i64 n4) ∧ condP (n3 == n4) (∃ (n5 : Int), w.cell? (x2.add 1) = some (.int .i64 n5) ∧ ∃ (n6 : Int), w.cell? (x3.add 1) = some (.int .i64 n6) ∧ condP (n5 == n6) (∃ (n7 : Int), w.cell? (x2.add 2) = some (.int .i64 n7) ∧ ∃ (n8 : Int), w.cell? (x3.add 2) = some (.int .i64 n8) ∧ condP (n7 == n8) (∃ (A9 : Option Addr) (m10 : Nat) (c11 : Nat), w.cell? (x2.add 3) = some (.slice A9 m10 c11) ∧ ∃ (A12 : Option Addr) (m13 : Nat) (c14 : Nat), w.cell? (x3.add 3) = some (.slice A12 m13 c14) ∧ CallsE Tryd.prog 51 #[.slice A9 m10 c11, .slice A12 m13 c14] w (fun v15 w16 => ∃ (b17 : Bool), v15 = .bool b17 ∧ ref10_Same.p1 K b17 w16)) (ref10_Same.p1 K false w)) (ref10_Same.p1 K false w)) (ref10_Same.p1 K false w)
abbrev ref10_Same.F (q0_0 : Int) (q0_1 : Int) (q0_2 : Int) (q0_3A : Option Addr) (q0_3n : Nat) (q0_3c : Nat) (q1_0 : Int) (q1_1 : Int) (q1_2 : Int) (q1_3A : Option Addr) (q1_3n : Nat) (q1_3c : Nat) (K : Value → World → Prop) (w : World) : Prop :=
  wlet (w.alloc (.cells #[.int .i64 q0_0, .int .i64 q0_1, .int .i64 q0_2, .slice q0_3A q0_3n q0_3c] 46)) fun w1 => wlet (w1.alloc (.cells #[.int .i64 q1_0, .int .i64 q1_1, .int .i64 q1_2, .slice q1_3A q1_3n q1_3c] 46)) fun w2 => ref10_Same.p0 K (⟨w.heap.size, 0, none⟩) (⟨w1.heap.size, 0, none⟩) w2
theorem ref10_Same.ok {q0_0 : Int} {q0_1 : Int} {q0_2 : Int} {q0_3A : Option Addr} {q0_3n : Nat} {q0_3c : Nat} {q1_0 : Int} {q1_1 : Int} {q1_2 : Int} {q1_3A : Option Addr} {q1_3n : Nat} {q1_3c : Nat} {K : Value → World → Prop} {w : World} (h : ref10_Same.F q0_0 q0_1 q0_2 q0_3A q0_3n q0_3c q1_0 q1_1 q1_2 q1_3A q1_3n q1_3c K w) :
    CallsE Tryd.prog 31 #[.agg #[.int .i64 q0_0, .int .i64 q0_1, .int .i64 q0_2, .slice q0_3A q0_3n q0_3c], .agg #[.int .i64 q1_0, .int .i64 q1_1, .int .i64 q1_2, .slice q1_3A q1_3n q1_3c]] w K := by
  refine calls_of_J (n := 31) (rs := [.tmp 4]) Tryd.func31 rfl rfl rfl rfl ?_
  refine J_seq (fun σ w => vPa (σ 2) fun x2 => vPa (σ 3) fun x3 => ref10_Same.p0 K x2 x3 w) ?_ ?_
  ·
    exact sh_sound _ _ _ _ (Eq.mp (by kernel_rfl) h)
  · intro σ w h
    obtain ⟨x2, e2, h⟩ := vPa_elim h
    obtain ⟨x3, e3, h⟩ := vPa_elim h
    refine J.sub ?_ (((Sub.base _).upd e2).upd e3)
    clear e2 e3
    refine J_seq (fun σ w => vB (σ 4) fun x4 => ref10_Same.p1 K x4 w) ?_ ?_
    ·
      exact sh_sound _ _ _ _ (Eq.mp (by kernel_rfl) h)
    · intro σ w h
      obtain ⟨x4, e4, h⟩ := vB_elim h
      refine J.sub ?_ ((Sub.base _).upd e4)
      clear e4
      exact sh_sound _ _ _ _ (Eq.mp (by kernel_rfl) h)

/-! ### hayloft/hayloftref06.Size: function 32 -/
abbrev ref06_Size.p2 (K : Value → World → Prop) (x0 : Int) (w : World) : Prop :=
  (0 ≤ x0 ∧ x0 < ((7 : Nat) : Int)) ∧ ∃ (n1 : Int), ([.int .i64 16, .int .i64 24, .int .i64 32, .int .i64 48, .int .i64 64, .int .i64 96, .int .i64 128] : List Value)[x0.toNat]? = some (.int .i64 n1) ∧ K (.int .i64 n1) w
abbrev ref06_Size.p1 (K : Value → World → Prop) (x0 : Int) (x8 : Bool) (w : World) : Prop :=
  condP x8 (K (.int .i64 0) w) (ref06_Size.p2 K x0 w)
abbrev ref06_Size.p0 (K : Value → World → Prop) (x0 : Int) (w : World) : Prop :=
  condP (decide (x0 < (0 : Int))) (ref06_Size.p1 K x0 true w) (ref06_Size.p1 K x0 (decide ((6 : Int) < x0)) w)
abbrev ref06_Size.F (q0 : Int) (K : Value → World → Prop) (w : World) : Prop :=
  ref06_Size.p0 K q0 w
theorem ref06_Size.ok {q0 : Int} {K : Value → World → Prop} {w : World} (h : ref06_Size.F q0 K w) :
    CallsE Tryd.prog 32 #[.int .i64 q0] w K := by
  refine calls_of_J (n := 12) (rs := [.tmp 2]) Tryd.func32 rfl rfl rfl rfl ?_
  refine J_seq (fun σ w => vI .i64 (σ 0) fun x0 => ref06_Size.p0 K x0 w) ?_ ?_
  ·
    exact sh_sound _ _ _ _ (Eq.mp (by kernel_rfl) h)
  · intro σ w h
    obtain ⟨x0, e0, h⟩ := vI_elim h
    refine J.sub ?_ ((Sub.base _).upd e0)
    clear e0
    refine J_seq (fun σ w => vI .i64 (σ 0) fun x0 => ref06_Size.p2 K x0 w) ?_ ?_
    ·
      refine J_seq (fun σ w => vI .i64 (σ 0) fun x0 => vB (σ 8) fun x8 => ref06_Size.p1 K x0 x8 w) ?_ ?_
      ·
        exact sh_sound _ _ _ _ (Eq.mp (by kernel_rfl) h)
      · intro σ w h
        obtain ⟨x0, e0, h⟩ := vI_elim h
        obtain ⟨x8, e8, h⟩ := vB_elim h
        refine J.sub ?_ (((Sub.base _).upd e0).upd e8)
        clear e0 e8
        exact sh_sound _ _ _ _ (Eq.mp (by kernel_rfl) h)
    · intro σ w h
      obtain ⟨x0, e0, h⟩ := vI_elim h
      refine J.sub ?_ ((Sub.base _).upd e0)
      clear e0
      exact sh_sound _ _ _ _ (Eq.mp (by kernel_rfl) h)

/-! ### hayloft/hayloftref06.Slots: function 33 -/
abbrev ref06_Slots.F (q0 : Int) (K : Value → World → Prop) (w : World) : Prop :=
  condP (q0 == (7 : Int)) (K (.int .i64 1) w) (CallsE Tryd.prog 32 #[.int .i64 q0] w (fun v1 w2 => ∃ (n3 : Int), v1 = .int .i64 n3 ∧ condP (n3 == (0 : Int)) (K (.int .i64 0) w2) (CallsE Tryd.prog 32 #[.int .i64 q0] w2 (fun v4 w5 => ∃ (n6 : Int), v4 = .int .i64 n6 ∧ n6 ≠ 0 ∧ K (.int .i64 (IntKind.wrap .i64 (Int.tdiv 256 n6))) w5))))
theorem ref06_Slots.ok {q0 : Int} {K : Value → World → Prop} {w : World} (h : ref06_Slots.F q0 K w) :
    CallsE Tryd.prog 33 #[.int .i64 q0] w K := by
  refine calls_of_J (n := 11) (rs := [.tmp 2]) Tryd.func33 rfl rfl rfl rfl ?_
  exact sh_sound _ _ _ _ (Eq.mp (by kernel_rfl) h)

/-! ### hayloft/hayloftref10.Pages: function 34 -/
abbrev ref10_Pages.F (q0 : Int) (q1 : Int) (K : Value → World → Prop) (w : World) : Prop :=
  condP (q0 == (7 : Int)) (CallsE Tryd.prog 52 #[.int .i64 q1] w (fun v1 w2 => ∃ (n3 : Int), v1 = .int .i64 n3 ∧ K (.int .i64 n3) w2)) (K (.int .i64 1) w)
theorem ref10_Pages.ok {q0 : Int} {q1 : Int} {K : Value → World → Prop} {w : World} (h : ref10_Pages.F q0 q1 K w) :
    CallsE Tryd.prog 34 #[.int .i64 q0, .int .i64 q1] w K := by
  refine calls_of_J (n := 9) (rs := [.tmp 4]) Tryd.func34 rfl rfl rfl rfl ?_
  exact sh_sound _ _ _ _ (Eq.mp (by kernel_rfl) h)

/-! ### (*hayloft/span.Span).At: function 35 -/
abbrev span_Span_At.p2 (K : Value → World → Prop) (x0 : Option Addr) (x1 : Int) (w : World) : Prop :=
  ∃ (a1 : Addr), x0 = some a1 ∧ ∃ (n2 : Int), w.cell? (a1.add 1) = some (.int .i64 n2) ∧ ∃ (a3 : Addr), x0 = some a3 ∧ ∃ (n4 : Int), w.cell? (a3.add 4) = some (.int .i64 n4) ∧ K (.tuple #[.int .i64 (IntKind.wrap .i64 ((IntKind.wrap .i64 (n2 * (256 : Int))) + (IntKind.wrap .i64 (x1 * n4)))), .bool true]) w
abbrev span_Span_At.p1 (K : Value → World → Prop) (x0 : Option Addr) (x1 : Int) (x13 : Bool) (w : World) : Prop :=
  condP x13 (K (.tuple #[.int .i64 0, .bool false]) w) (span_Span_At.p2 K x0 x1 w)
abbrev span_Span_At.p0 (K : Value → World → Prop) (x0 : Option Addr) (x1 : Int) (w : World) : Prop :=
  condP (decide (x1 < (0 : Int))) (span_Span_At.p1 K x0 x1 true w) (CallsE Tryd.prog 23 #[.pointer x0] w (fun v5 w6 => ∃ (n7 : Int), v5 = .int .i64 n7 ∧ span_Span_At.p1 K x0 x1 (decide (n7 ≤ x1)) w6))
abbrev span_Span_At.F (q0 : Option Addr) (q1 : Int) (K : Value → World → Prop) (w : World) : Prop :=
  span_Span_At.p0 K q0 q1 w
theorem span_Span_At.ok {q0 : Option Addr} {q1 : Int} {K : Value → World → Prop} {w : World} (h : span_Span_At.F q0 q1 K w) :
    CallsE Tryd.prog 35 #[.pointer q0, .int .i64 q1] w K := by
  refine calls_of_J (n := 26) (rs := [.tmp 4, .tmp 5]) Tryd.func35 rfl rfl rfl rfl ?_
  refine J_seq (fun σ w => vP (σ 0) fun x0 => vI .i64 (σ 1) fun x1 => span_Span_At.p0 K x0 x1 w) ?_ ?_
  ·
    exact sh_sound _ _ _ _ (Eq.mp (by kernel_rfl) h)
  · intro σ w h
    obtain ⟨x0, e0, h⟩ := vP_elim h
    obtain ⟨x1, e1, h⟩ := vI_elim h
    refine J.sub ?_ (((Sub.base _).upd e0).upd e1)
    clear e0 e1
    refine J_seq (fun σ w => vP (σ 0) fun x0 => vI .i64 (σ 1) fun x1 => span_Span_At.p2 K x0 x1 w) ?_ ?_
    ·
      refine J_seq (fun σ w => vP (σ 0) fun x0 => vI .i64 (σ 1) fun x1 => vB (σ 13) fun x13 => span_Span_At.p1 K x0 x1 x13 w) ?_ ?_
      ·
        exact sh_sound _ _ _ _ (Eq.mp (by kernel_rfl) h)
      · intro σ w h
        obtain ⟨x0, e0, h⟩ := vP_elim h
        obtain ⟨x1, e1, h⟩ := vI_elim h
        obtain ⟨x13, e13, h⟩ := vB_elim h
        refine J.sub ?_ ((((Sub.base _).upd e0).upd e1).upd e13)
        clear e0 e1 e13
        exact sh_sound _ _ _ _ (Eq.mp (by kernel_rfl) h)
    · intro σ w h
      obtain ⟨x0, e0, h⟩ := vP_elim h
      obtain ⟨x1, e1, h⟩ := vI_elim h
      refine J.sub ?_ (((Sub.base _).upd e0).upd e1)
      clear e0 e1
      exact sh_sound _ _ _ _ (Eq.mp (by kernel_rfl) h)

/-! ### (*hayloft/span.Span).Size: function 36 -/
abbrev span_Span_Size.F (q0 : Option Addr) (K : Value → World → Prop) (w : World) : Prop :=
  condP q0.isNone (K (.int .i64 0) w) (∃ (a1 : Addr), q0 = some a1 ∧ ∃ (n2 : Int), w.cell? (a1.add 4) = some (.int .i64 n2) ∧ K (.int .i64 n2) w)
theorem span_Span_Size.ok {q0 : Option Addr} {K : Value → World → Prop} {w : World} (h : span_Span_Size.F q0 K w) :
    CallsE Tryd.prog 36 #[.pointer q0] w K := by
  refine calls_of_J (n := 9) (rs := [.tmp 2]) Tryd.func36 rfl rfl rfl rfl ?_
  exact sh_sound _ _ _ _ (Eq.mp (by kernel_rfl) h)

/-! ### hayloft/span.New: function 37 -/
abbrev span_New.p6 (K : Value → World → Prop) (x1 : Int) (x8 : Addr) (w : World) : Prop :=
  CallsE Tryd.prog 43 #[.int .i64 x1] w (fun v15 w16 => ∃ (n17 : Int), v15 = .int .i64 n17 ∧ CallsE Tryd.prog 53 #[.int .i64 n17] w16 (fun v18 w19 => ∃ (p20 : Option Addr), v18 = .pointer p20 ∧ ∃ (a21 : Addr), some x8 = some a21 ∧ canStore w19 a21 ∧ wlet (w19.setCell a21 (.pointer p20)) fun w22 => K (.tuple #[.pointer (some x8), .int .i64 0]) w22))
abbrev span_New.p5 (K : Value → World → Prop) (x1 : Int) (x8 : Addr) (x54 : Bool) (w : World) : Prop :=
  condP x54 (K (.tuple #[.pointer none, .int .i64 10]) w) (span_New.p6 K x1 x8 w)
abbrev span_New.p4 (K : Value → World → Prop) (x0 : Int) (x1 : Int) (x8 : Addr) (w : World) : Prop :=
  condP (decide (x0 < (0 : Int))) (span_New.p5 K x1 x8 true w) (∃ (a23 : Addr), some x8 = some a23 ∧ ∃ (n24 : Int), w.cell? (a23.add 2) = some (.int .i64 n24) ∧ span_New.p5 K x1 x8 (decide ((IntKind.wrap .i64 ((4096 : Int) - n24)) < x0)) w)
abbrev span_New.p3 (K : Value → World → Prop) (x0 : Int) (x1 : Int) (x2 : Int) (x8 : Addr) (x22 : Bool) (w : World) : Prop :=
  condP x22 (K (.tuple #[.pointer none, .int .i64 2]) w) (condP (x1 == (7 : Int)) (CallsE Tryd.prog 41 #[.int .i64 x2] w (fun v5 w6 => ∃ (n7 : Int), v5 = .int .i64 n7 ∧ condP (n7 != (7 : Int)) (K (.tuple #[.pointer none, .int .i64 2]) w6) (CallsE Tryd.prog 42 #[.int .i64 x2] w6 (fun v8 w9 => ∃ (n10 : Int), v8 = .int .i64 n10 ∧ ∃ (a11 : Addr), some x8 = some a11 ∧ canStore w9 (a11.add 2) ∧ wlet (w9.setCell (a11.add 2) (.int .i64 n10)) fun w12 => ∃ (a13 : Addr), some x8 = some a13 ∧ canStore w12 (a13.add 4) ∧ wlet (w12.setCell (a13.add 4) (.int .i64 x2)) fun w14 => span_New.p4 K x0 x1 x8 w14)))) (span_New.p4 K x0 x1 x8 w))
abbrev span_New.p2 (K : Value → World → Prop) (x0 : Int) (x1 : Int) (x2 : Int) (x8 : Addr) (x15 : Bool) (w : World) : Prop :=
  condP x15 (K (.tuple #[.pointer none, .int .i64 11]) w) (condP (decide (x1 < (7 : Int))) (span_New.p3 K x0 x1 x2 x8 (x2 != (0 : Int)) w) (span_New.p3 K x0 x1 x2 x8 false w))
abbrev span_New.p1 (K : Value → World → Prop) (x0 : Int) (x1 : Int) (x2 : Int) (x8 : Addr) (w : World) : Prop :=
  condP (decide (x1 < (0 : Int))) (span_New.p2 K x0 x1 x2 x8 true w) (span_New.p2 K x0 x1 x2 x8 (decide ((7 : Int) < x1)) w)
abbrev span_New.p0 (K : Value → World → Prop) (x0 : Int) (x1 : Int) (x2 : Int) (w : World) : Prop :=
  CallsE Tryd.prog 19 #[.int .i64 x1] w (fun v1 w2 => ∃ (n3 : Int), v1 = .int .i64 n3 ∧ wlet (w2.alloc (.cells #[.pointer none, .int .i64 x0, .int .i64 1, .int .i64 x1, .int .i64 n3] 73)) fun w4 => span_New.p1 K x0 x1 x2 (⟨w2.heap.size, 0, none⟩) w4)
abbrev span_New.F (q0 : Int) (q1 : Int) (q2 : Int) (K : Value → World → Prop) (w : World) : Prop :=
  span_New.p0 K q0 q1 q2 w
theorem span_New.ok {q0 : Int} {q1 : Int} {q2 : Int} {K : Value → World → Prop} {w : World} (h : span_New.F q0 q1 q2 K w) :
    CallsE Tryd.prog 37 #[.int .i64 q0, .int .i64 q1, .int .i64 q2] w K := by
  refine calls_of_J (n := 63) (rs := [.tmp 6, .tmp 7]) Tryd.func37 rfl rfl rfl rfl ?_
  refine J_seq (fun σ w => vI .i64 (σ 0) fun x0 => vI .i64 (σ 1) fun x1 => vI .i64 (σ 2) fun x2 => span_New.p0 K x0 x1 x2 w) ?_ ?_
  ·
    exact sh_sound _ _ _ _ (Eq.mp (by kernel_rfl) h)
  · intro σ w h
    obtain ⟨x0, e0, h⟩ := vI_elim h
    obtain ⟨x1, e1, h⟩ := vI_elim h
    obtain ⟨x2, e2, h⟩ := vI_elim h
    refine J.sub ?_ ((((Sub.base _).upd e0).upd e1).upd e2)
    clear e0 e1 e2
    refine J_seq (fun σ w => vI .i64 (σ 0) fun x0 => vI .i64 (σ 1) fun x1 => vI .i64 (σ 2) fun x2 => vPa (σ 8) fun x8 => span_New.p1 K x0 x1 x2 x8 w) ?_ ?_
    ·
      exact sh_sound _ _ _ _ (Eq.mp (by kernel_rfl) h)
    · intro σ w h
      obtain ⟨x0, e0, h⟩ := vI_elim h
      obtain ⟨x1, e1, h⟩ := vI_elim h
      obtain ⟨x2, e2, h⟩ := vI_elim h
      obtain ⟨x8, e8, h⟩ := vPa_elim h
      refine J.sub ?_ (((((Sub.base _).upd e0).upd e1).upd e2).upd e8)
      clear e0 e1 e2 e8
      refine J_seq (fun σ w => vI .i64 (σ 0) fun x0 => vI .i64 (σ 1) fun x1 => vPa (σ 8) fun x8 => span_New.p4 K x0 x1 x8 w) ?_ ?_
      ·
        refine J_block ?_
        refine J_seq (fun σ w => vI .i64 (σ 0) fun x0 => vI .i64 (σ 1) fun x1 => vI .i64 (σ 2) fun x2 => vPa (σ 8) fun x8 => vB (σ 15) fun x15 => span_New.p2 K x0 x1 x2 x8 x15 w) ?_ ?_
        ·
          exact sh_sound _ _ _ _ (Eq.mp (by kernel_rfl) h)
        · intro σ w h
          obtain ⟨x0, e0, h⟩ := vI_elim h
          obtain ⟨x1, e1, h⟩ := vI_elim h
          obtain ⟨x2, e2, h⟩ := vI_elim h
          obtain ⟨x8, e8, h⟩ := vPa_elim h
          obtain ⟨x15, e15, h⟩ := vB_elim h
          refine J.sub ?_ ((((((Sub.base _).upd e0).upd e1).upd e2).upd e8).upd e15)
          clear e0 e1 e2 e8 e15
          refine J_cond' h (by kernel_rfl) (fun h => ?_) (fun h => ?_)
          ·
            exact sh_sound _ _ _ _ (Eq.mp (by kernel_rfl) h)
          ·
            refine J_seq (fun σ w => vI .i64 (σ 0) fun x0 => vI .i64 (σ 1) fun x1 => vI .i64 (σ 2) fun x2 => vPa (σ 8) fun x8 => vB (σ 22) fun x22 => span_New.p3 K x0 x1 x2 x8 x22 w) ?_ ?_
            ·
              exact sh_sound _ _ _ _ (Eq.mp (by kernel_rfl) h)
            · intro σ w h
              obtain ⟨x0, e0, h⟩ := vI_elim h
              obtain ⟨x1, e1, h⟩ := vI_elim h
              obtain ⟨x2, e2, h⟩ := vI_elim h
              obtain ⟨x8, e8, h⟩ := vPa_elim h
              obtain ⟨x22, e22, h⟩ := vB_elim h
              refine J.sub ?_ ((((((Sub.base _).upd e0).upd e1).upd e2).upd e8).upd e22)
              clear e0 e1 e2 e8 e22
              exact sh_sound _ _ _ _ (Eq.mp (by kernel_rfl) h)
      · intro σ w h
        obtain ⟨x0, e0, h⟩ := vI_elim h
        obtain ⟨x1, e1, h⟩ := vI_elim h
        obtain ⟨x8, e8, h⟩ := vPa_elim h
        refine J.sub ?_ ((((Sub.base _).upd e0).upd e1).upd e8)
        clear e0 e1 e8
        refine J_seq (fun σ w => vI .i64 (σ 1) fun x1 => vPa (σ 8) fun x8 => span_New.p6 K x1 x8 w) ?_ ?_
        ·
          refine J_seq (fun σ w => vI .i64 (σ 1) fun x1 => vPa (σ 8) fun x8 => vB (σ 54) fun x54 => span_New.p5 K x1 x8 x54 w) ?_ ?_
          ·
            exact sh_sound _ _ _ _ (Eq.mp (by kernel_rfl) h)
          · intro σ w h
            obtain ⟨x1, e1, h⟩ := vI_elim h
            obtain ⟨x8, e8, h⟩ := vPa_elim h
            obtain ⟨x54, e54, h⟩ := vB_elim h
            refine J.sub ?_ ((((Sub.base _).upd e1).upd e8).upd e54)
            clear e1 e8 e54
            exact sh_sound _ _ _ _ (Eq.mp (by kernel_rfl) h)
        · intro σ w h
          obtain ⟨x1, e1, h⟩ := vI_elim h
          obtain ⟨x8, e8, h⟩ := vPa_elim h
          refine J.sub ?_ (((Sub.base _).upd e1).upd e8)
          clear e1 e8
          exact sh_sound _ _ _ _ (Eq.mp (by kernel_rfl) h)

/-! ### (*hayloft/set.Set).Add: function 38 -/
abbrev set_Set_Add.p3 (K : Value → World → Prop) (w : World) : Prop :=
  K (.bool true) w
abbrev set_Set_Add.p2 (K : Value → World → Prop) (x0 : Option Addr) (x1 : Int) (w : World) : Prop :=
  ∃ (S1 : Array Obj → Prop), S1 w.heap ∧ ∃ (a2 : Addr), x0 = some a2 ∧ (64 : Int) ≠ 0 ∧ (64 : Int) ≠ 0 ∧ 0 ≤ (Int.tmod x1 64) ∧ ∃ (A3 : Option Addr) (m4 : Nat) (c5 : Nat), (∀ w' : World, S1 w'.heap → w'.cell? (a2.add 1) = some (.slice A3 m4 c5)) ∧ (0 ≤ (IntKind.wrap .i64 (Int.tdiv x1 64)) ∧ (IntKind.wrap .i64 (Int.tdiv x1 64)) < ((m4 : Nat) : Int)) ∧ ∃ (a6 : Addr), A3 = some a6 ∧ ∃ (n7 : Int), (∀ w' : World, S1 w'.heap → w'.cell? (a6.add ((IntKind.wrap .i64 (Int.tdiv x1 64)).toNat)) = some (.int .u64 n7)) ∧ (0 ≤ (IntKind.wrap .i64 (Int.tdiv x1 64)) ∧ (IntKind.wrap .i64 (Int.tdiv x1 64)) < ((m4 : Nat) : Int)) ∧ ∃ (a8 : Addr), A3 = some a8 ∧ canStore w (a8.add ((IntKind.wrap .i64 (Int.tdiv x1 64)).toNat)) ∧ wlet (w.setCell (a8.add ((IntKind.wrap .i64 (Int.tdiv x1 64)).toNat)) (.int .u64 (ibits .or .u64 n7 (ishl .u64 1 (Int.tmod x1 64))))) fun w9 => set_Set_Add.p3 K w9
abbrev set_Set_Add.p1 (K : Value → World → Prop) (x0 : Option Addr) (x1 : Int) (x17 : Bool) (w : World) : Prop :=
  condP x17 (K (.bool false) w) (set_Set_Add.p2 K x0 x1 w)
abbrev set_Set_Add.p0 (K : Value → World → Prop) (x0 : Option Addr) (x1 : Int) (w : World) : Prop :=
  condP (decide (x1 < (0 : Int))) (set_Set_Add.p1 K x0 x1 true w) (CallsE Tryd.prog 54 #[.pointer x0] w (fun v10 w11 => ∃ (n12 : Int), v10 = .int .i64 n12 ∧ condP (decide (n12 ≤ x1)) (set_Set_Add.p1 K x0 x1 true w11) (CallsE Tryd.prog 55 #[.pointer x0, .int .i64 x1] w11 (fun v13 w14 => ∃ (b15 : Bool), v13 = .bool b15 ∧ set_Set_Add.p1 K x0 x1 b15 w14))))
abbrev set_Set_Add.F (q0 : Option Addr) (q1 : Int) (K : Value → World → Prop) (w : World) : Prop :=
  set_Set_Add.p0 K q0 q1 w
theorem set_Set_Add.ok {q0 : Option Addr} {q1 : Int} {K : Value → World → Prop} {w : World} (h : set_Set_Add.F q0 q1 K w) :
    CallsE Tryd.prog 38 #[.pointer q0, .int .i64 q1] w K := by
  refine calls_of_J (n := 31) (rs := [.tmp 4]) Tryd.func38 rfl rfl rfl rfl ?_
  refine J_seq (fun σ w => vP (σ 0) fun x0 => vI .i64 (σ 1) fun x1 => set_Set_Add.p0 K x0 x1 w) ?_ ?_
  ·
    exact sh_sound _ _ _ _ (Eq.mp (by kernel_rfl) h)
  · intro σ w h
    obtain ⟨x0, e0, h⟩ := vP_elim h
    obtain ⟨x1, e1, h⟩ := vI_elim h
    refine J.sub ?_ (((Sub.base _).upd e0).upd e1)
    clear e0 e1
    refine J_seq (fun σ w => vP (σ 0) fun x0 => vI .i64 (σ 1) fun x1 => set_Set_Add.p2 K x0 x1 w) ?_ ?_
    ·
      refine J_seq (fun σ w => vP (σ 0) fun x0 => vI .i64 (σ 1) fun x1 => vB (σ 17) fun x17 => set_Set_Add.p1 K x0 x1 x17 w) ?_ ?_
      ·
        exact sh_sound _ _ _ _ (Eq.mp (by kernel_rfl) h)
      · intro σ w h
        obtain ⟨x0, e0, h⟩ := vP_elim h
        obtain ⟨x1, e1, h⟩ := vI_elim h
        obtain ⟨x17, e17, h⟩ := vB_elim h
        refine J.sub ?_ ((((Sub.base _).upd e0).upd e1).upd e17)
        clear e0 e1 e17
        exact sh_sound _ _ _ _ (Eq.mp (by kernel_rfl) h)
    · intro σ w h
      obtain ⟨x0, e0, h⟩ := vP_elim h
      obtain ⟨x1, e1, h⟩ := vI_elim h
      refine J.sub ?_ (((Sub.base _).upd e0).upd e1)
      clear e0 e1
      refine J_seq (fun σ w => set_Set_Add.p3 K w) ?_ ?_
      ·
        exact J_held [13] [(0, 0), (1, 0), (2, 0), (4, 0), (5, 0), (8, 0), (9, 0), (10, 0), (3, 1), (6, 0), (7, 1), (11, 0), (12, 0), (13, 3)] (by kernel_rfl) (Eq.mp (by kernel_rfl) h)
      · intro σ w h
        refine J.sub ?_ (Sub.base _)
        exact sh_sound _ _ _ _ (Eq.mp (by kernel_rfl) h)

/-! ### (hayloft/span.taken).Live: function 39 -/
abbrev span_taken_Live.F (q0_0 : Option Addr) (K : Value → World → Prop) (w : World) : Prop :=
  wlet (w.alloc (.cells #[.pointer q0_0] 71)) fun w1 => ∃ (p2 : Option Addr), w1.cell? (⟨w.heap.size, 0, none⟩) = some (.pointer p2) ∧ CallsE Tryd.prog 56 #[.pointer p2] w1 (fun v3 w4 => ∃ (n5 : Int), v3 = .int .i64 n5 ∧ K (.int .i64 n5) w4)
theorem span_taken_Live.ok {q0_0 : Option Addr} {K : Value → World → Prop} {w : World} (h : span_taken_Live.F q0_0 K w) :
    CallsE Tryd.prog 39 #[.agg #[.pointer q0_0]] w K := by
  refine calls_of_J (n := 6) (rs := [.tmp 2]) Tryd.func39 rfl rfl rfl rfl ?_
  exact sh_sound _ _ _ _ (Eq.mp (by kernel_rfl) h)

/-! ### (hayloft/span.taken).Slots: function 40 -/
abbrev span_taken_Slots.F (q0_0 : Option Addr) (K : Value → World → Prop) (w : World) : Prop :=
  wlet (w.alloc (.cells #[.pointer q0_0] 71)) fun w1 => ∃ (p2 : Option Addr), w1.cell? (⟨w.heap.size, 0, none⟩) = some (.pointer p2) ∧ CallsE Tryd.prog 54 #[.pointer p2] w1 (fun v3 w4 => ∃ (n5 : Int), v3 = .int .i64 n5 ∧ K (.int .i64 n5) w4)
theorem span_taken_Slots.ok {q0_0 : Option Addr} {K : Value → World → Prop} {w : World} (h : span_taken_Slots.F q0_0 K w) :
    CallsE Tryd.prog 40 #[.agg #[.pointer q0_0]] w K := by
  refine calls_of_J (n := 6) (rs := [.tmp 2]) Tryd.func40 rfl rfl rfl rfl ?_
  exact sh_sound _ _ _ _ (Eq.mp (by kernel_rfl) h)

/-! ### hayloft/class.Of: function 41 -/
abbrev class_Of.p10 (K : Value → World → Prop) (x3 : Int) (w : World) : Prop :=
  K (.int .i64 x3) w
abbrev class_Of.p9 (K : Value → World → Prop) (x3 : Int) (w : World) : Prop :=
  class_Of.p10 K (IntKind.wrap .i64 (x3 - (1 : Int))) w
abbrev class_Of.p8 (K : Value → World → Prop) (x3 : Int) (w : World) : Prop :=
  class_Of.p9 K (IntKind.wrap .i64 (x3 - (1 : Int))) w
abbrev class_Of.p7 (K : Value → World → Prop) (x3 : Int) (w : World) : Prop :=
  class_Of.p8 K (IntKind.wrap .i64 (x3 - (1 : Int))) w
abbrev class_Of.p6 (K : Value → World → Prop) (x3 : Int) (w : World) : Prop :=
  class_Of.p7 K (IntKind.wrap .i64 (x3 - (1 : Int))) w
abbrev class_Of.p5 (K : Value → World → Prop) (x3 : Int) (w : World) : Prop :=
  class_Of.p6 K (IntKind.wrap .i64 (x3 - (1 : Int))) w
abbrev class_Of.p4 (K : Value → World → Prop) (x3 : Int) (w : World) : Prop :=
  class_Of.p5 K (IntKind.wrap .i64 (x3 - (1 : Int))) w
abbrev class_Of.p3 (K : Value → World → Prop) (x0 : Int) (x3 : Int) (w : World) : Prop :=
  condP (decide (x0 ≤ (16 : Int))) (class_Of.p4 K (IntKind.wrap .i64 (x3 - (1 : Int))) w) (condP (decide (x0 ≤ (24 : Int))) (class_Of.p4 K x3 w) (condP (decide (x0 ≤ (32 : Int))) (class_Of.p5 K x3 w) (condP (decide (x0 ≤ (48 : Int))) (class_Of.p6 K x3 w) (condP (decide (x0 ≤ (64 : Int))) (class_Of.p7 K x3 w) (condP (decide (x0 ≤ (96 : Int))) (class_Of.p8 K x3 w) (condP (decide (x0 ≤ (128 : Int))) (class_Of.p9 K x3 w) (class_Of.p10 K x3 w)))))))
abbrev class_Of.p2 (K : Value → World → Prop) (x0 : Int) (w : World) : Prop :=
  class_Of.p3 K x0 7 w
abbrev class_Of.p1 (K : Value → World → Prop) (x0 : Int) (x9 : Bool) (w : World) : Prop :=
  condP x9 (K (.int .i64 (-1)) w) (class_Of.p2 K x0 w)
abbrev class_Of.p0 (K : Value → World → Prop) (x0 : Int) (w : World) : Prop :=
  condP (decide (x0 < (1 : Int))) (class_Of.p1 K x0 true w) (class_Of.p1 K x0 (decide ((4096 : Int) < x0)) w)
abbrev class_Of.F (q0 : Int) (K : Value → World → Prop) (w : World) : Prop :=
  class_Of.p0 K q0 w
theorem class_Of.ok {q0 : Int} {K : Value → World → Prop} {w : World} (h : class_Of.F q0 K w) :
    CallsE Tryd.prog 41 #[.int .i64 q0] w K := by
  refine calls_of_J (n := 46) (rs := [.tmp 2]) Tryd.func41 rfl rfl rfl rfl ?_
  refine J_seq (fun σ w => vI .i64 (σ 0) fun x0 => class_Of.p0 K x0 w) ?_ ?_
  ·
    exact sh_sound _ _ _ _ (Eq.mp (by kernel_rfl) h)
  · intro σ w h
    obtain ⟨x0, e0, h⟩ := vI_elim h
    refine J.sub ?_ ((Sub.base _).upd e0)
    clear e0
    refine J_seq (fun σ w => vI .i64 (σ 0) fun x0 => class_Of.p2 K x0 w) ?_ ?_
    ·
      refine J_seq (fun σ w => vI .i64 (σ 0) fun x0 => vB (σ 9) fun x9 => class_Of.p1 K x0 x9 w) ?_ ?_
      ·
        exact sh_sound _ _ _ _ (Eq.mp (by kernel_rfl) h)
      · intro σ w h
        obtain ⟨x0, e0, h⟩ := vI_elim h
        obtain ⟨x9, e9, h⟩ := vB_elim h
        refine J.sub ?_ (((Sub.base _).upd e0).upd e9)
        clear e0 e9
        exact sh_sound _ _ _ _ (Eq.mp (by kernel_rfl) h)
    · intro σ w h
      obtain ⟨x0, e0, h⟩ := vI_elim h
      refine J.sub ?_ ((Sub.base _).upd e0)
      clear e0
      refine J_seq (fun σ w => vI .i64 (σ 0) fun x0 => vI .i64 (σ 3) fun x3 => class_Of.p3 K x0 x3 w) ?_ ?_
      ·
        exact sh_sound _ _ _ _ (Eq.mp (by kernel_rfl) h)
      · intro σ w h
        obtain ⟨x0, e0, h⟩ := vI_elim h
        obtain ⟨x3, e3, h⟩ := vI_elim h
        refine J.sub ?_ (((Sub.base _).upd e0).upd e3)
        clear e0 e3
        refine J_seq (fun σ w => vI .i64 (σ 3) fun x3 => class_Of.p10 K x3 w) ?_ ?_
        ·
          refine J_block ?_
          refine J_seq (fun σ w => vI .i64 (σ 3) fun x3 => class_Of.p9 K x3 w) ?_ ?_
          ·
            refine J_block ?_
            refine J_seq (fun σ w => vI .i64 (σ 3) fun x3 => class_Of.p8 K x3 w) ?_ ?_
            ·
              refine J_block ?_
              refine J_seq (fun σ w => vI .i64 (σ 3) fun x3 => class_Of.p7 K x3 w) ?_ ?_
              ·
                refine J_block ?_
                refine J_seq (fun σ w => vI .i64 (σ 3) fun x3 => class_Of.p6 K x3 w) ?_ ?_
                ·
                  refine J_block ?_
                  refine J_seq (fun σ w => vI .i64 (σ 3) fun x3 => class_Of.p5 K x3 w) ?_ ?_
                  ·
                    refine J_block ?_
                    refine J_seq (fun σ w => vI .i64 (σ 3) fun x3 => class_Of.p4 K x3 w) ?_ ?_
                    ·
                      exact sh_sound _ _ _ _ (Eq.mp (by kernel_rfl) h)
                    · intro σ w h
                      obtain ⟨x3, e3, h⟩ := vI_elim h
                      refine J.sub ?_ ((Sub.base _).upd e3)
                      clear e3
                      exact sh_sound _ _ _ _ (Eq.mp (by kernel_rfl) h)
                  · intro σ w h
                    obtain ⟨x3, e3, h⟩ := vI_elim h
                    refine J.sub ?_ ((Sub.base _).upd e3)
                    clear e3
                    exact sh_sound _ _ _ _ (Eq.mp (by kernel_rfl) h)
                · intro σ w h
                  obtain ⟨x3, e3, h⟩ := vI_elim h
                  refine J.sub ?_ ((Sub.base _).upd e3)
                  clear e3
                  exact sh_sound _ _ _ _ (Eq.mp (by kernel_rfl) h)
              · intro σ w h
                obtain ⟨x3, e3, h⟩ := vI_elim h
                refine J.sub ?_ ((Sub.base _).upd e3)
                clear e3
                exact sh_sound _ _ _ _ (Eq.mp (by kernel_rfl) h)
            · intro σ w h
              obtain ⟨x3, e3, h⟩ := vI_elim h
              refine J.sub ?_ ((Sub.base _).upd e3)
              clear e3
              exact sh_sound _ _ _ _ (Eq.mp (by kernel_rfl) h)
          · intro σ w h
            obtain ⟨x3, e3, h⟩ := vI_elim h
            refine J.sub ?_ ((Sub.base _).upd e3)
            clear e3
            exact sh_sound _ _ _ _ (Eq.mp (by kernel_rfl) h)
        · intro σ w h
          obtain ⟨x3, e3, h⟩ := vI_elim h
          refine J.sub ?_ ((Sub.base _).upd e3)
          clear e3
          exact sh_sound _ _ _ _ (Eq.mp (by kernel_rfl) h)

/-! ### hayloft/class.Pages: function 42 -/
abbrev class_Pages.F (q0 : Int) (K : Value → World → Prop) (w : World) : Prop :=
  CallsE Tryd.prog 41 #[.int .i64 q0] w (fun v1 w2 => ∃ (n3 : Int), v1 = .int .i64 n3 ∧ condP (decide (n3 < (0 : Int))) (K (.int .i64 0) w2) (condP (decide (n3 < (7 : Int))) (K (.int .i64 1) w2) ((256 : Int) ≠ 0 ∧ K (.int .i64 (IntKind.wrap .i64 (Int.tdiv (IntKind.wrap .i64 ((IntKind.wrap .i64 (q0 + (256 : Int))) - (1 : Int))) 256))) w2)))
theorem class_Pages.ok {q0 : Int} {K : Value → World → Prop} {w : World} (h : class_Pages.F q0 K w) :
    CallsE Tryd.prog 42 #[.int .i64 q0] w K := by
  refine calls_of_J (n := 16) (rs := [.tmp 2]) Tryd.func42 rfl rfl rfl rfl ?_
  exact sh_sound _ _ _ _ (Eq.mp (by kernel_rfl) h)

/-! ### hayloft/class.Slots: function 43 -/
abbrev class_Slots.F (q0 : Int) (K : Value → World → Prop) (w : World) : Prop :=
  condP (q0 == (7 : Int)) (K (.int .i64 1) w) (CallsE Tryd.prog 19 #[.int .i64 q0] w (fun v1 w2 => ∃ (n3 : Int), v1 = .int .i64 n3 ∧ condP (decide ((0 : Int) < n3)) (n3 ≠ 0 ∧ K (.int .i64 (IntKind.wrap .i64 (Int.tdiv 256 n3))) w2) (K (.int .i64 0) w2)))
theorem class_Slots.ok {q0 : Int} {K : Value → World → Prop} {w : World} (h : class_Slots.F q0 K w) :
    CallsE Tryd.prog 43 #[.int .i64 q0] w K := by
  refine calls_of_J (n := 12) (rs := [.tmp 2]) Tryd.func43 rfl rfl rfl rfl ?_
  exact sh_sound _ _ _ _ (Eq.mp (by kernel_rfl) h)

/-! ### (*hayloft/span.Span).Class: function 44 -/
abbrev span_Span_Class.F (q0 : Option Addr) (K : Value → World → Prop) (w : World) : Prop :=
  condP q0.isNone (K (.int .i64 0) w) (∃ (a1 : Addr), q0 = some a1 ∧ ∃ (n2 : Int), w.cell? (a1.add 3) = some (.int .i64 n2) ∧ K (.int .i64 n2) w)
theorem span_Span_Class.ok {q0 : Option Addr} {K : Value → World → Prop} {w : World} (h : span_Span_Class.F q0 K w) :
    CallsE Tryd.prog 44 #[.pointer q0] w K := by
  refine calls_of_J (n := 9) (rs := [.tmp 2]) Tryd.func44 rfl rfl rfl rfl ?_
  exact sh_sound _ _ _ _ (Eq.mp (by kernel_rfl) h)

/-! ### (*hayloft/span.Span).Has: function 45 -/
abbrev span_Span_Has.p1 (K : Value → World → Prop) (x4 : Bool) (w : World) : Prop :=
  K (.bool x4) w
abbrev span_Span_Has.p0 (K : Value → World → Prop) (x0 : Option Addr) (x1 : Int) (w : World) : Prop :=
  condP (!x0.isNone) (∃ (a1 : Addr), x0 = some a1 ∧ ∃ (p2 : Option Addr), w.cell? a1 = some (.pointer p2) ∧ CallsE Tryd.prog 57 #[.agg #[.pointer p2], .int .i64 x1] w (fun v3 w4 => ∃ (b5 : Bool), v3 = .bool b5 ∧ span_Span_Has.p1 K b5 w4)) (span_Span_Has.p1 K false w)
abbrev span_Span_Has.F (q0 : Option Addr) (q1 : Int) (K : Value → World → Prop) (w : World) : Prop :=
  span_Span_Has.p0 K q0 q1 w
theorem span_Span_Has.ok {q0 : Option Addr} {q1 : Int} {K : Value → World → Prop} {w : World} (h : span_Span_Has.F q0 q1 K w) :
    CallsE Tryd.prog 45 #[.pointer q0, .int .i64 q1] w K := by
  refine calls_of_J (n := 15) (rs := [.tmp 4]) Tryd.func45 rfl rfl rfl rfl ?_
  refine J_seq (fun σ w => vP (σ 0) fun x0 => vI .i64 (σ 1) fun x1 => span_Span_Has.p0 K x0 x1 w) ?_ ?_
  ·
    exact sh_sound _ _ _ _ (Eq.mp (by kernel_rfl) h)
  · intro σ w h
    obtain ⟨x0, e0, h⟩ := vP_elim h
    obtain ⟨x1, e1, h⟩ := vI_elim h
    refine J.sub ?_ (((Sub.base _).upd e0).upd e1)
    clear e0 e1
    refine J_seq (fun σ w => vB (σ 4) fun x4 => span_Span_Has.p1 K x4 w) ?_ ?_
    ·
      exact sh_sound _ _ _ _ (Eq.mp (by kernel_rfl) h)
    · intro σ w h
      obtain ⟨x4, e4, h⟩ := vB_elim h
      refine J.sub ?_ ((Sub.base _).upd e4)
      clear e4
      exact sh_sound _ _ _ _ (Eq.mp (by kernel_rfl) h)

/-! ### (*hayloft/span.Span).Give: function 46 -/
abbrev span_Span_Give.p1 (K : Value → World → Prop) (x4 : Bool) (w : World) : Prop :=
  K (.bool x4) w
abbrev span_Span_Give.p0 (K : Value → World → Prop) (x0 : Option Addr) (x1 : Int) (w : World) : Prop :=
  condP (!x0.isNone) (∃ (a1 : Addr), x0 = some a1 ∧ ∃ (p2 : Option Addr), w.cell? a1 = some (.pointer p2) ∧ CallsE Tryd.prog 58 #[.pointer p2, .int .i64 x1] w (fun v3 w4 => ∃ (b5 : Bool), v3 = .bool b5 ∧ span_Span_Give.p1 K b5 w4)) (span_Span_Give.p1 K false w)
abbrev span_Span_Give.F (q0 : Option Addr) (q1 : Int) (K : Value → World → Prop) (w : World) : Prop :=
  span_Span_Give.p0 K q0 q1 w
theorem span_Span_Give.ok {q0 : Option Addr} {q1 : Int} {K : Value → World → Prop} {w : World} (h : span_Span_Give.F q0 q1 K w) :
    CallsE Tryd.prog 46 #[.pointer q0, .int .i64 q1] w K := by
  refine calls_of_J (n := 16) (rs := [.tmp 4]) Tryd.func46 rfl rfl rfl rfl ?_
  refine J_seq (fun σ w => vP (σ 0) fun x0 => vI .i64 (σ 1) fun x1 => span_Span_Give.p0 K x0 x1 w) ?_ ?_
  ·
    exact sh_sound _ _ _ _ (Eq.mp (by kernel_rfl) h)
  · intro σ w h
    obtain ⟨x0, e0, h⟩ := vP_elim h
    obtain ⟨x1, e1, h⟩ := vI_elim h
    refine J.sub ?_ (((Sub.base _).upd e0).upd e1)
    clear e0 e1
    refine J_seq (fun σ w => vB (σ 4) fun x4 => span_Span_Give.p1 K x4 w) ?_ ?_
    ·
      exact sh_sound _ _ _ _ (Eq.mp (by kernel_rfl) h)
    · intro σ w h
      obtain ⟨x4, e4, h⟩ := vB_elim h
      refine J.sub ?_ ((Sub.base _).upd e4)
      clear e4
      exact sh_sound _ _ _ _ (Eq.mp (by kernel_rfl) h)

/-! ### (*hayloft/span.Span).Take: function 47 -/
abbrev span_Span_Take.F (q0 : Option Addr) (K : Value → World → Prop) (w : World) : Prop :=
  condP q0.isNone (K (.tuple #[.int .i64 0, .bool false]) w) (∃ (a1 : Addr), q0 = some a1 ∧ ∃ (p2 : Option Addr), w.cell? a1 = some (.pointer p2) ∧ CallsE Tryd.prog 59 #[.pointer p2, .int .i64 0] w (fun v3 w4 => ∃ (n5 : Int), v3 = .int .i64 n5 ∧ condP (decide (n5 < (0 : Int))) (K (.tuple #[.int .i64 0, .bool false]) w4) (∃ (a6 : Addr), q0 = some a6 ∧ ∃ (p7 : Option Addr), w4.cell? a6 = some (.pointer p7) ∧ CallsE Tryd.prog 38 #[.pointer p7, .int .i64 n5] w4 (fun v8 w9 => ∃ (b10 : Bool), v8 = .bool b10 ∧ K (.tuple #[.int .i64 n5, .bool b10]) w9))))
theorem span_Span_Take.ok {q0 : Option Addr} {K : Value → World → Prop} {w : World} (h : span_Span_Take.F q0 K w) :
    CallsE Tryd.prog 47 #[.pointer q0] w K := by
  refine calls_of_J (n := 23) (rs := [.tmp 2, .tmp 3]) Tryd.func47 rfl rfl rfl rfl ?_
  exact sh_sound _ _ _ _ (Eq.mp (by kernel_rfl) h)

/-! ### (*hayloft/set.Set).List: function 48 -/
abbrev set_Set_List.p3 (K : Value → World → Prop) (x3A : Option Addr) (x3n : Nat) (x3c : Nat) (w : World) : Prop :=
  K (.slice x3A x3n x3c) w
abbrev set_Set_List.b0 (L0 : Option Addr → Option Addr → Nat → Nat → Int → World → Prop) (K : Value → World → Prop) (x0 : Option Addr) (x3A : Option Addr) (x3n : Nat) (x3c : Nat) (x4 : Int) (w : World) : Prop :=
  condP (decide ((0 : Int) ≤ x4)) (wlet (w.alloc (.cells #[.int .i64 x4] 3)) fun w4 => SemJ Tryd.prog (Builtin.append_ #[44, 44] 44 #[.slice x3A x3n x3c, .slice (some ⟨w.heap.size, 0, none⟩) 1 1]) (fun v5 w6 => ∃ (A7 : Option Addr) (m8 : Nat) (c9 : Nat), v5 = .slice A7 m8 c9 ∧ CallsE Tryd.prog 60 #[.pointer x0, .int .i64 (IntKind.wrap .i64 (x4 + (1 : Int)))] w6 (fun v10 w11 => ∃ (n12 : Int), v10 = .int .i64 n12 ∧ L0 x0 A7 m8 c9 n12 w11)) w4) (set_Set_List.p3 K x3A x3n x3c w)
def set_Set_List.l0 (K : Value → World → Prop) (k : Nat) : Option Addr → Option Addr → Nat → Nat → Int → World → Prop :=
  Nat.rec (motive := fun _ => Option Addr → Option Addr → Nat → Nat → Int → World → Prop) (fun _ _ _ _ _ _ => False) (fun _ ih => set_Set_List.b0 ih K) k
theorem set_Set_List.l0_succ (K : Value → World → Prop) (k : Nat) (x0 : Option Addr) (x3A : Option Addr) (x3n : Nat) (x3c : Nat) (x4 : Int) (w : World) : set_Set_List.l0 K (k + 1) x0 x3A x3n x3c x4 w = set_Set_List.b0 (set_Set_List.l0 K k) K x0 x3A x3n x3c x4 w := rfl
abbrev set_Set_List.p2 (K : Value → World → Prop) (x0 : Option Addr) (x3A : Option Addr) (x3n : Nat) (x3c : Nat) (x4 : Int) (w : World) : Prop :=
  ∃ k, set_Set_List.l0 K k x0 x3A x3n x3c x4 w
abbrev set_Set_List.p1 (K : Value → World → Prop) (x0 : Option Addr) (x3A : Option Addr) (x3n : Nat) (x3c : Nat) (w : World) : Prop :=
  CallsE Tryd.prog 60 #[.pointer x0, .int .i64 0] w (fun v1 w2 => ∃ (n3 : Int), v1 = .int .i64 n3 ∧ set_Set_List.p2 K x0 x3A x3n x3c n3 w2)
abbrev set_Set_List.p0 (K : Value → World → Prop) (x0 : Option Addr) (w : World) : Prop :=
  set_Set_List.p1 K x0 none 0 0 w
abbrev set_Set_List.F (q0 : Option Addr) (K : Value → World → Prop) (w : World) : Prop :=
  set_Set_List.p0 K q0 w
theorem set_Set_List.ok {q0 : Option Addr} {K : Value → World → Prop} {w : World} (h : set_Set_List.F q0 K w) :
    CallsE Tryd.prog 48 #[.pointer q0] w K := by
  refine calls_of_J (n := 18) (rs := [.tmp 2]) Tryd.func48 rfl rfl rfl rfl ?_
  refine J_seq (fun σ w => vP (σ 0) fun x0 => set_Set_List.p0 K x0 w) ?_ ?_
  ·
    exact sh_sound _ _ _ _ (Eq.mp (by kernel_rfl) h)
  · intro σ w h
    obtain ⟨x0, e0, h⟩ := vP_elim h
    refine J.sub ?_ ((Sub.base _).upd e0)
    clear e0
    refine J_seq (fun σ w => vP (σ 0) fun x0 => vS (σ 3) fun x3A x3n x3c => set_Set_List.p1 K x0 x3A x3n x3c w) ?_ ?_
    ·
      exact sh_sound _ _ _ _ (Eq.mp (by kernel_rfl) h)
    · intro σ w h
      obtain ⟨x0, e0, h⟩ := vP_elim h
      obtain ⟨x3A, x3n, x3c, e3, h⟩ := vS_elim h
      refine J.sub ?_ (((Sub.base _).upd e0).upd e3)
      clear e0 e3
      refine J_seq (fun σ w => vS (σ 3) fun x3A x3n x3c => set_Set_List.p3 K x3A x3n x3c w) ?_ ?_
      ·
        refine J_seq (fun σ w => vP (σ 0) fun x0 => vS (σ 3) fun x3A x3n x3c => vI .i64 (σ 4) fun x4 => set_Set_List.p2 K x0 x3A x3n x3c x4 w) ?_ ?_
        ·
          exact sh_sound _ _ _ _ (Eq.mp (by kernel_rfl) h)
        · intro σ w h
          obtain ⟨x0, e0, h⟩ := vP_elim h
          obtain ⟨x3A, x3n, x3c, e3, h⟩ := vS_elim h
          obtain ⟨x4, e4, h⟩ := vI_elim h
          refine J.sub ?_ ((((Sub.base _).upd e0).upd e3).upd e4)
          clear e0 e3 e4
          refine J_block ?_
          refine J_loop (fun k σ w => vP (σ 0) fun x0 => vS (σ 3) fun x3A x3n x3c => vI .i64 (σ 4) fun x4 => set_Set_List.l0 K k x0 x3A x3n x3c x4 w) (Eq.mp (by kernel_rfl) h) ?_ ?_
          · intro σ w h
            obtain ⟨x0, e0, h⟩ := vP_elim h
            obtain ⟨x3A, x3n, x3c, e3, h⟩ := vS_elim h
            obtain ⟨x4, e4, h⟩ := vI_elim h
            exact h
          · intro k0 σ w h
            obtain ⟨x0, e0, h⟩ := vP_elim h
            obtain ⟨x3A, x3n, x3c, e3, h⟩ := vS_elim h
            obtain ⟨x4, e4, h⟩ := vI_elim h
            refine J.sub ?_ ((((Sub.base _).upd e0).upd e3).upd e4)
            clear e0 e3 e4
            exact sh_sound _ _ _ _ (Eq.mp (by kernel_rfl) h)
      · intro σ w h
        obtain ⟨x3A, x3n, x3c, e3, h⟩ := vS_elim h
        refine J.sub ?_ ((Sub.base _).upd e3)
        clear e3
        exact sh_sound _ _ _ _ (Eq.mp (by kernel_rfl) h)

/-! ### hayloft/hayloftref10.Of: function 49 -/
abbrev ref10_Of.p9 (L0 : Addr → Option Addr → Option Addr → Nat → Nat → Int → Int → World → Prop) (K : Value → World → Prop) (x1 : Addr) (x4 : Option Addr) (x22A : Option Addr) (x22n : Nat) (x22c : Nat) (x23 : Int) (x24 : Int) (w : World) : Prop :=
  L0 x1 x4 x22A x22n x22c x23 (IntKind.wrap .i64 (x24 + (1 : Int))) w
abbrev ref10_Of.p8 (L0 : Addr → Option Addr → Option Addr → Nat → Nat → Int → Int → World → Prop) (K : Value → World → Prop) (x1 : Addr) (x4 : Option Addr) (x7 : Int) (x22A : Option Addr) (x22n : Nat) (x22c : Nat) (x23 : Int) (x24 : Int) (w : World) : Prop :=
  ∃ (a14 : Addr), x4 = some a14 ∧ ∃ (A15 : Option Addr) (m16 : Nat) (c17 : Nat), w.cell? (a14.add 3) = some (.slice A15 m16 c17) ∧ (0 ≤ x7 ∧ x7 < ((m16 : Nat) : Int)) ∧ ∃ (a18 : Addr), A15 = some a18 ∧ canStore w (a18.add x7.toNat) ∧ wlet (w.setCell (a18.add x7.toNat) (.bool true)) fun w19 => ref10_Of.p9 L0 K x1 x4 x22A x22n x22c x23 x24 w19
abbrev ref10_Of.p7 (L0 : Addr → Option Addr → Option Addr → Nat → Nat → Int → Int → World → Prop) (K : Value → World → Prop) (x1 : Addr) (x4 : Option Addr) (x7 : Int) (x22A : Option Addr) (x22n : Nat) (x22c : Nat) (x23 : Int) (x24 : Int) (x53 : Bool) (w : World) : Prop :=
  condP x53 (K (.tuple #[.pointer none, .int .i64 4]) w) (ref10_Of.p8 L0 K x1 x4 x7 x22A x22n x22c x23 x24 w)
abbrev ref10_Of.p6 (L0 : Addr → Option Addr → Option Addr → Nat → Nat → Int → Int → World → Prop) (K : Value → World → Prop) (x1 : Addr) (x4 : Option Addr) (x6 : Int) (x7 : Int) (x22A : Option Addr) (x22n : Nat) (x22c : Nat) (x23 : Int) (x24 : Int) (w : World) : Prop :=
  condP (decide (x7 < (0 : Int))) (ref10_Of.p7 L0 K x1 x4 x7 x22A x22n x22c x23 x24 true w) (∃ (a20 : Addr), x4 = some a20 ∧ ∃ (A21 : Option Addr) (m22 : Nat) (c23 : Nat), w.cell? (a20.add 3) = some (.slice A21 m22 c23) ∧ condP (decide (((m22 : Nat) : Int) ≤ x7)) (ref10_Of.p7 L0 K x1 x4 x7 x22A x22n x22c x23 x24 true w) (condP (decide ((0 : Int) < x6)) (∃ (A24 : Option Addr) (m25 : Nat) (c26 : Nat), w.cell? (x1.add 3) = some (.slice A24 m25 c26) ∧ (0 ≤ (IntKind.wrap .i64 (x6 - (1 : Int))) ∧ (IntKind.wrap .i64 (x6 - (1 : Int))) < ((m25 : Nat) : Int)) ∧ ∃ (a27 : Addr), A24 = some a27 ∧ ∃ (n28 : Int), w.cell? (a27.add ((IntKind.wrap .i64 (x6 - (1 : Int))).toNat)) = some (.int .i64 n28) ∧ ref10_Of.p7 L0 K x1 x4 x7 x22A x22n x22c x23 x24 (decide (x7 ≤ n28)) w) (ref10_Of.p7 L0 K x1 x4 x7 x22A x22n x22c x23 x24 false w)))
abbrev ref10_Of.p5 (L0 : Addr → Option Addr → Option Addr → Nat → Nat → Int → Int → World → Prop) (K : Value → World → Prop) (x1 : Addr) (x4 : Option Addr) (x22A : Option Addr) (x22n : Nat) (x22c : Nat) (x23 : Int) (x24 : Int) (w : World) : Prop :=
  (0 ≤ x24 ∧ x24 < ((x22n : Nat) : Int)) ∧ ∃ (a12 : Addr), x22A = some a12 ∧ ∃ (n13 : Int), w.cell? (a12.add x24.toNat) = some (.int .i64 n13) ∧ ref10_Of.p6 L0 K x1 x4 x24 n13 x22A x22n x22c x23 x24 w
abbrev ref10_Of.p10 (K : Value → World → Prop) (x4 : Option Addr) (w : World) : Prop :=
  K (.tuple #[.pointer x4, .int .i64 0]) w
abbrev ref10_Of.p4 (L0 : Addr → Option Addr → Option Addr → Nat → Nat → Int → Int → World → Prop) (K : Value → World → Prop) (x1 : Addr) (x4 : Option Addr) (x22A : Option Addr) (x22n : Nat) (x22c : Nat) (x23 : Int) (x24 : Int) (x25 : Bool) (w : World) : Prop :=
  condP x25 (ref10_Of.p5 L0 K x1 x4 x22A x22n x22c x23 x24 w) (ref10_Of.p10 K x4 w)
abbrev ref10_Of.b0 (L0 : Addr → Option Addr → Option Addr → Nat → Nat → Int → Int → World → Prop) (K : Value → World → Prop) (x1 : Addr) (x4 : Option Addr) (x22A : Option Addr) (x22n : Nat) (x22c : Nat) (x23 : Int) (x24 : Int) (w : World) : Prop :=
  ref10_Of.p4 L0 K x1 x4 x22A x22n x22c x23 x24 (decide (x24 < x23)) w
def ref10_Of.l0 (K : Value → World → Prop) (k : Nat) : Addr → Option Addr → Option Addr → Nat → Nat → Int → Int → World → Prop :=
  Nat.rec (motive := fun _ => Addr → Option Addr → Option Addr → Nat → Nat → Int → Int → World → Prop) (fun _ _ _ _ _ _ _ _ => False) (fun _ ih => ref10_Of.b0 ih K) k
theorem ref10_Of.l0_succ (K : Value → World → Prop) (k : Nat) (x1 : Addr) (x4 : Option Addr) (x22A : Option Addr) (x22n : Nat) (x22c : Nat) (x23 : Int) (x24 : Int) (w : World) : ref10_Of.l0 K (k + 1) x1 x4 x22A x22n x22c x23 x24 w = ref10_Of.b0 (ref10_Of.l0 K k) K x1 x4 x22A x22n x22c x23 x24 w := rfl
abbrev ref10_Of.p3 (K : Value → World → Prop) (x1 : Addr) (x4 : Option Addr) (x22A : Option Addr) (x22n : Nat) (x22c : Nat) (x23 : Int) (x24 : Int) (w : World) : Prop :=
  ∃ k, ref10_Of.l0 K k x1 x4 x22A x22n x22c x23 x24 w
abbrev ref10_Of.p2 (K : Value → World → Prop) (x1 : Addr) (x4 : Option Addr) (w : World) : Prop :=
  ∃ (A9 : Option Addr) (m10 : Nat) (c11 : Nat), w.cell? (x1.add 3) = some (.slice A9 m10 c11) ∧ ref10_Of.p3 K x1 x4 A9 m10 c11 ((m10 : Nat) : Int) 0 w
abbrev ref10_Of.p1 (K : Value → World → Prop) (x1 : Addr) (x4 : Option Addr) (x5 : Int) (w : World) : Prop :=
  condP (x5 != (0 : Int)) (K (.tuple #[.pointer none, .int .i64 x5]) w) (ref10_Of.p2 K x1 x4 w)
abbrev ref10_Of.p0 (K : Value → World → Prop) (x1 : Addr) (w : World) : Prop :=
  ∃ (n2 : Int), w.cell? x1 = some (.int .i64 n2) ∧ ∃ (n3 : Int), w.cell? (x1.add 1) = some (.int .i64 n3) ∧ ∃ (n4 : Int), w.cell? (x1.add 2) = some (.int .i64 n4) ∧ CallsE Tryd.prog 61 #[.int .i64 n2, .int .i64 n3, .int .i64 n4] w (fun v5 w6 => ∃ (p7 : Option Addr) (n8 : Int), v5 = .tuple #[.pointer p7, .int .i64 n8] ∧ ref10_Of.p1 K x1 p7 n8 w6)
abbrev ref10_Of.F (q0_0 : Int) (q0_1 : Int) (q0_2 : Int) (q0_3A : Option Addr) (q0_3n : Nat) (q0_3c : Nat) (K : Value → World → Prop) (w : World) : Prop :=
  wlet (w.alloc (.cells #[.int .i64 q0_0, .int .i64 q0_1, .int .i64 q0_2, .slice q0_3A q0_3n q0_3c] 46)) fun w1 => ref10_Of.p0 K (⟨w.heap.size, 0, none⟩) w1
theorem ref10_Of.ok {q0_0 : Int} {q0_1 : Int} {q0_2 : Int} {q0_3A : Option Addr} {q0_3n : Nat} {q0_3c : Nat} {K : Value → World → Prop} {w : World} (h : ref10_Of.F q0_0 q0_1 q0_2 q0_3A q0_3n q0_3c K w) :
    CallsE Tryd.prog 49 #[.agg #[.int .i64 q0_0, .int .i64 q0_1, .int .i64 q0_2, .slice q0_3A q0_3n q0_3c]] w K := by
  refine calls_of_J (n := 62) (rs := [.tmp 2, .tmp 3]) Tryd.func49 rfl rfl rfl rfl ?_
  refine J_seq (fun σ w => vPa (σ 1) fun x1 => ref10_Of.p0 K x1 w) ?_ ?_
  ·
    exact sh_sound _ _ _ _ (Eq.mp (by kernel_rfl) h)
  · intro σ w h
    obtain ⟨x1, e1, h⟩ := vPa_elim h
    refine J.sub ?_ ((Sub.base _).upd e1)
    clear e1
    refine J_seq (fun σ w => vPa (σ 1) fun x1 => vP (σ 4) fun x4 => vI .i64 (σ 5) fun x5 => ref10_Of.p1 K x1 x4 x5 w) ?_ ?_
    ·
      exact sh_sound _ _ _ _ (Eq.mp (by kernel_rfl) h)
    · intro σ w h
      obtain ⟨x1, e1, h⟩ := vPa_elim h
      obtain ⟨x4, e4, h⟩ := vP_elim h
      obtain ⟨x5, e5, h⟩ := vI_elim h
      refine J.sub ?_ ((((Sub.base _).upd e1).upd e4).upd e5)
      clear e1 e4 e5
      refine J_seq (fun σ w => vPa (σ 1) fun x1 => vP (σ 4) fun x4 => ref10_Of.p2 K x1 x4 w) ?_ ?_
      ·
        exact sh_sound _ _ _ _ (Eq.mp (by kernel_rfl) h)
      · intro σ w h
        obtain ⟨x1, e1, h⟩ := vPa_elim h
        obtain ⟨x4, e4, h⟩ := vP_elim h
        refine J.sub ?_ (((Sub.base _).upd e1).upd e4)
        clear e1 e4
        refine J_seq (fun σ w => vP (σ 4) fun x4 => ref10_Of.p10 K x4 w) ?_ ?_
        ·
          refine J_seq (fun σ w => vPa (σ 1) fun x1 => vP (σ 4) fun x4 => vS (σ 22) fun x22A x22n x22c => vI .i64 (σ 23) fun x23 => vI .i64 (σ 24) fun x24 => ref10_Of.p3 K x1 x4 x22A x22n x22c x23 x24 w) ?_ ?_
          ·
            exact sh_sound _ _ _ _ (Eq.mp (by kernel_rfl) h)
          · intro σ w h
            obtain ⟨x1, e1, h⟩ := vPa_elim h
            obtain ⟨x4, e4, h⟩ := vP_elim h
            obtain ⟨x22A, x22n, x22c, e22, h⟩ := vS_elim h
            obtain ⟨x23, e23, h⟩ := vI_elim h
            obtain ⟨x24, e24, h⟩ := vI_elim h
            refine J.sub ?_ ((((((Sub.base _).upd e1).upd e4).upd e22).upd e23).upd e24)
            clear e1 e4 e22 e23 e24
            refine J_block ?_
            refine J_loop (fun k σ w => vPa (σ 1) fun x1 => vP (σ 4) fun x4 => vS (σ 22) fun x22A x22n x22c => vI .i64 (σ 23) fun x23 => vI .i64 (σ 24) fun x24 => ref10_Of.l0 K k x1 x4 x22A x22n x22c x23 x24 w) (Eq.mp (by kernel_rfl) h) ?_ ?_
            · intro σ w h
              obtain ⟨x1, e1, h⟩ := vPa_elim h
              obtain ⟨x4, e4, h⟩ := vP_elim h
              obtain ⟨x22A, x22n, x22c, e22, h⟩ := vS_elim h
              obtain ⟨x23, e23, h⟩ := vI_elim h
              obtain ⟨x24, e24, h⟩ := vI_elim h
              exact h
            · intro k0 σ w h
              obtain ⟨x1, e1, h⟩ := vPa_elim h
              obtain ⟨x4, e4, h⟩ := vP_elim h
              obtain ⟨x22A, x22n, x22c, e22, h⟩ := vS_elim h
              obtain ⟨x23, e23, h⟩ := vI_elim h
              obtain ⟨x24, e24, h⟩ := vI_elim h
              refine J.sub ?_ ((((((Sub.base _).upd e1).upd e4).upd e22).upd e23).upd e24)
              clear e1 e4 e22 e23 e24
              refine J_seq (fun σ w => vPa (σ 1) fun x1 => vP (σ 4) fun x4 => vS (σ 22) fun x22A x22n x22c => vI .i64 (σ 23) fun x23 => vI .i64 (σ 24) fun x24 => vB (σ 25) fun x25 => ref10_Of.p4 (ref10_Of.l0 K k0) K x1 x4 x22A x22n x22c x23 x24 x25 w) ?_ ?_
              ·
                exact sh_sound _ _ _ _ (Eq.mp (by kernel_rfl) h)
              · intro σ w h
                obtain ⟨x1, e1, h⟩ := vPa_elim h
                obtain ⟨x4, e4, h⟩ := vP_elim h
                obtain ⟨x22A, x22n, x22c, e22, h⟩ := vS_elim h
                obtain ⟨x23, e23, h⟩ := vI_elim h
                obtain ⟨x24, e24, h⟩ := vI_elim h
                obtain ⟨x25, e25, h⟩ := vB_elim h
                refine J.sub ?_ (((((((Sub.base _).upd e1).upd e4).upd e22).upd e23).upd e24).upd e25)
                clear e1 e4 e22 e23 e24 e25
                refine J_seq (fun σ w => vPa (σ 1) fun x1 => vP (σ 4) fun x4 => vS (σ 22) fun x22A x22n x22c => vI .i64 (σ 23) fun x23 => vI .i64 (σ 24) fun x24 => ref10_Of.p5 (ref10_Of.l0 K k0) K x1 x4 x22A x22n x22c x23 x24 w) ?_ ?_
                ·
                  exact sh_sound _ _ _ _ (Eq.mp (by kernel_rfl) h)
                · intro σ w h
                  obtain ⟨x1, e1, h⟩ := vPa_elim h
                  obtain ⟨x4, e4, h⟩ := vP_elim h
                  obtain ⟨x22A, x22n, x22c, e22, h⟩ := vS_elim h
                  obtain ⟨x23, e23, h⟩ := vI_elim h
                  obtain ⟨x24, e24, h⟩ := vI_elim h
                  refine J.sub ?_ ((((((Sub.base _).upd e1).upd e4).upd e22).upd e23).upd e24)
                  clear e1 e4 e22 e23 e24
                  refine J_seq (fun σ w => vPa (σ 1) fun x1 => vP (σ 4) fun x4 => vS (σ 22) fun x22A x22n x22c => vI .i64 (σ 23) fun x23 => vI .i64 (σ 24) fun x24 => ref10_Of.p9 (ref10_Of.l0 K k0) K x1 x4 x22A x22n x22c x23 x24 w) ?_ ?_
                  ·
                    refine J_block ?_
                    refine J_seq (fun σ w => vPa (σ 1) fun x1 => vP (σ 4) fun x4 => vI .i64 (σ 6) fun x6 => vI .i64 (σ 7) fun x7 => vS (σ 22) fun x22A x22n x22c => vI .i64 (σ 23) fun x23 => vI .i64 (σ 24) fun x24 => ref10_Of.p6 (ref10_Of.l0 K k0) K x1 x4 x6 x7 x22A x22n x22c x23 x24 w) ?_ ?_
                    ·
                      exact sh_sound _ _ _ _ (Eq.mp (by kernel_rfl) h)
                    · intro σ w h
                      obtain ⟨x1, e1, h⟩ := vPa_elim h
                      obtain ⟨x4, e4, h⟩ := vP_elim h
                      obtain ⟨x6, e6, h⟩ := vI_elim h
                      obtain ⟨x7, e7, h⟩ := vI_elim h
                      obtain ⟨x22A, x22n, x22c, e22, h⟩ := vS_elim h
                      obtain ⟨x23, e23, h⟩ := vI_elim h
                      obtain ⟨x24, e24, h⟩ := vI_elim h
                      refine J.sub ?_ ((((((((Sub.base _).upd e1).upd e4).upd e6).upd e7).upd e22).upd e23).upd e24)
                      clear e1 e4 e6 e7 e22 e23 e24
                      refine J_seq (fun σ w => vPa (σ 1) fun x1 => vP (σ 4) fun x4 => vI .i64 (σ 7) fun x7 => vS (σ 22) fun x22A x22n x22c => vI .i64 (σ 23) fun x23 => vI .i64 (σ 24) fun x24 => ref10_Of.p8 (ref10_Of.l0 K k0) K x1 x4 x7 x22A x22n x22c x23 x24 w) ?_ ?_
                      ·
                        refine J_seq (fun σ w => vPa (σ 1) fun x1 => vP (σ 4) fun x4 => vI .i64 (σ 7) fun x7 => vS (σ 22) fun x22A x22n x22c => vI .i64 (σ 23) fun x23 => vI .i64 (σ 24) fun x24 => vB (σ 53) fun x53 => ref10_Of.p7 (ref10_Of.l0 K k0) K x1 x4 x7 x22A x22n x22c x23 x24 x53 w) ?_ ?_
                        ·
                          exact sh_sound _ _ _ _ (Eq.mp (by kernel_rfl) h)
                        · intro σ w h
                          obtain ⟨x1, e1, h⟩ := vPa_elim h
                          obtain ⟨x4, e4, h⟩ := vP_elim h
                          obtain ⟨x7, e7, h⟩ := vI_elim h
                          obtain ⟨x22A, x22n, x22c, e22, h⟩ := vS_elim h
                          obtain ⟨x23, e23, h⟩ := vI_elim h
                          obtain ⟨x24, e24, h⟩ := vI_elim h
                          obtain ⟨x53, e53, h⟩ := vB_elim h
                          refine J.sub ?_ ((((((((Sub.base _).upd e1).upd e4).upd e7).upd e22).upd e23).upd e24).upd e53)
                          clear e1 e4 e7 e22 e23 e24 e53
                          exact sh_sound _ _ _ _ (Eq.mp (by kernel_rfl) h)
                      · intro σ w h
                        obtain ⟨x1, e1, h⟩ := vPa_elim h
                        obtain ⟨x4, e4, h⟩ := vP_elim h
                        obtain ⟨x7, e7, h⟩ := vI_elim h
                        obtain ⟨x22A, x22n, x22c, e22, h⟩ := vS_elim h
                        obtain ⟨x23, e23, h⟩ := vI_elim h
                        obtain ⟨x24, e24, h⟩ := vI_elim h
                        refine J.sub ?_ (((((((Sub.base _).upd e1).upd e4).upd e7).upd e22).upd e23).upd e24)
                        clear e1 e4 e7 e22 e23 e24
                        exact sh_sound _ _ _ _ (Eq.mp (by kernel_rfl) h)
                  · intro σ w h
                    obtain ⟨x1, e1, h⟩ := vPa_elim h
                    obtain ⟨x4, e4, h⟩ := vP_elim h
                    obtain ⟨x22A, x22n, x22c, e22, h⟩ := vS_elim h
                    obtain ⟨x23, e23, h⟩ := vI_elim h
                    obtain ⟨x24, e24, h⟩ := vI_elim h
                    refine J.sub ?_ ((((((Sub.base _).upd e1).upd e4).upd e22).upd e23).upd e24)
                    clear e1 e4 e22 e23 e24
                    exact sh_sound _ _ _ _ (Eq.mp (by kernel_rfl) h)
        · intro σ w h
          obtain ⟨x4, e4, h⟩ := vP_elim h
          refine J.sub ?_ ((Sub.base _).upd e4)
          clear e4
          exact sh_sound _ _ _ _ (Eq.mp (by kernel_rfl) h)

/-! ### (hayloft/hayloftref11.Span).pages: function 50 -/
abbrev ref11_Span_pages.F (q0_0 : Int) (q0_1 : Int) (q0_2 : Int) (q0_3A : Option Addr) (q0_3n : Nat) (q0_3c : Nat) (K : Value → World → Prop) (w : World) : Prop :=
  wlet (w.alloc (.cells #[.int .i64 q0_0, .int .i64 q0_1, .int .i64 q0_2, .slice q0_3A q0_3n q0_3c] 88)) fun w1 => ∃ (n2 : Int), w1.cell? (⟨w.heap.size, 1, none⟩) = some (.int .i64 n2) ∧ ∃ (n3 : Int), w1.cell? (⟨w.heap.size, 2, none⟩) = some (.int .i64 n3) ∧ CallsE Tryd.prog 34 #[.int .i64 n2, .int .i64 n3] w1 (fun v4 w5 => ∃ (n6 : Int), v4 = .int .i64 n6 ∧ K (.int .i64 n6) w5)
theorem ref11_Span_pages.ok {q0_0 : Int} {q0_1 : Int} {q0_2 : Int} {q0_3A : Option Addr} {q0_3n : Nat} {q0_3c : Nat} {K : Value → World → Prop} {w : World} (h : ref11_Span_pages.F q0_0 q0_1 q0_2 q0_3A q0_3n q0_3c K w) :
    CallsE Tryd.prog 50 #[.agg #[.int .i64 q0_0, .int .i64 q0_1, .int .i64 q0_2, .slice q0_3A q0_3n q0_3c]] w K := by
  refine calls_of_J (n := 8) (rs := [.tmp 2]) Tryd.func50 rfl rfl rfl rfl ?_
  exact sh_sound _ _ _ _ (Eq.mp (by kernel_rfl) h)

/-! ### hayloft/hayloftref01.Ints: function 51 -/
abbrev ref01_Ints.p3 (K : Value → World → Prop) (w : World) : Prop :=
  K (.bool true) w
abbrev ref01_Ints.b0 (L0 : Option Addr → Nat → Nat → Option Addr → Nat → Nat → Int → Int → World → Prop) (K : Value → World → Prop) (x0A : Option Addr) (x0n : Nat) (x0c : Nat) (x1A : Option Addr) (x1n : Nat) (x1c : Nat) (x12 : Int) (x13 : Int) (w : World) : Prop :=
  condP (decide (x13 < x12)) ((0 ≤ x13 ∧ x13 < ((x0n : Nat) : Int)) ∧ ∃ (a1 : Addr), x0A = some a1 ∧ ∃ (n2 : Int), w.cell? (a1.add x13.toNat) = some (.int .i64 n2) ∧ (0 ≤ x13 ∧ x13 < ((x1n : Nat) : Int)) ∧ ∃ (a3 : Addr), x1A = some a3 ∧ ∃ (n4 : Int), w.cell? (a3.add x13.toNat) = some (.int .i64 n4) ∧ condP (n2 != n4) (K (.bool false) w) (L0 x0A x0n x0c x1A x1n x1c x12 (IntKind.wrap .i64 (x13 + (1 : Int))) w)) (ref01_Ints.p3 K w)
def ref01_Ints.l0 (K : Value → World → Prop) (k : Nat) : Option Addr → Nat → Nat → Option Addr → Nat → Nat → Int → Int → World → Prop :=
  Nat.rec (motive := fun _ => Option Addr → Nat → Nat → Option Addr → Nat → Nat → Int → Int → World → Prop) (fun _ _ _ _ _ _ _ _ _ => False) (fun _ ih => ref01_Ints.b0 ih K) k
theorem ref01_Ints.l0_succ (K : Value → World → Prop) (k : Nat) (x0A : Option Addr) (x0n : Nat) (x0c : Nat) (x1A : Option Addr) (x1n : Nat) (x1c : Nat) (x12 : Int) (x13 : Int) (w : World) : ref01_Ints.l0 K (k + 1) x0A x0n x0c x1A x1n x1c x12 x13 w = ref01_Ints.b0 (ref01_Ints.l0 K k) K x0A x0n x0c x1A x1n x1c x12 x13 w := rfl
abbrev ref01_Ints.p2 (K : Value → World → Prop) (x0A : Option Addr) (x0n : Nat) (x0c : Nat) (x1A : Option Addr) (x1n : Nat) (x1c : Nat) (x12 : Int) (x13 : Int) (w : World) : Prop :=
  ∃ k, ref01_Ints.l0 K k x0A x0n x0c x1A x1n x1c x12 x13 w
abbrev ref01_Ints.p1 (K : Value → World → Prop) (x0A : Option Addr) (x0n : Nat) (x0c : Nat) (x1A : Option Addr) (x1n : Nat) (x1c : Nat) (w : World) : Prop :=
  ref01_Ints.p2 K x0A x0n x0c x1A x1n x1c ((x0n : Nat) : Int) 0 w
abbrev ref01_Ints.p0 (K : Value → World → Prop) (x0A : Option Addr) (x0n : Nat) (x0c : Nat) (x1A : Option Addr) (x1n : Nat) (x1c : Nat) (w : World) : Prop :=
  condP (((x0n : Nat) : Int) != ((x1n : Nat) : Int)) (K (.bool false) w) (ref01_Ints.p1 K x0A x0n x0c x1A x1n x1c w)
abbrev ref01_Ints.F (q0A : Option Addr) (q0n : Nat) (q0c : Nat) (q1A : Option Addr) (q1n : Nat) (q1c : Nat) (K : Value → World → Prop) (w : World) : Prop :=
  ref01_Ints.p0 K q0A q0n q0c q1A q1n q1c w
theorem ref01_Ints.ok {q0A : Option Addr} {q0n : Nat} {q0c : Nat} {q1A : Option Addr} {q1n : Nat} {q1c : Nat} {K : Value → World → Prop} {w : World} (h : ref01_Ints.F q0A q0n q0c q1A q1n q1c K w) :
    CallsE Tryd.prog 51 #[.slice q0A q0n q0c, .slice q1A q1n q1c] w K := by
  refine calls_of_J (n := 26) (rs := [.tmp 4]) Tryd.func51 rfl rfl rfl rfl ?_
  refine J_seq (fun σ w => vS (σ 0) fun x0A x0n x0c => vS (σ 1) fun x1A x1n x1c => ref01_Ints.p0 K x0A x0n x0c x1A x1n x1c w) ?_ ?_
  ·
    exact sh_sound _ _ _ _ (Eq.mp (by kernel_rfl) h)
  · intro σ w h
    obtain ⟨x0A, x0n, x0c, e0, h⟩ := vS_elim h
    obtain ⟨x1A, x1n, x1c, e1, h⟩ := vS_elim h
    refine J.sub ?_ (((Sub.base _).upd e0).upd e1)
    clear e0 e1
    refine J_seq (fun σ w => vS (σ 0) fun x0A x0n x0c => vS (σ 1) fun x1A x1n x1c => ref01_Ints.p1 K x0A x0n x0c x1A x1n x1c w) ?_ ?_
    ·
      exact sh_sound _ _ _ _ (Eq.mp (by kernel_rfl) h)
    · intro σ w h
      obtain ⟨x0A, x0n, x0c, e0, h⟩ := vS_elim h
      obtain ⟨x1A, x1n, x1c, e1, h⟩ := vS_elim h
      refine J.sub ?_ (((Sub.base _).upd e0).upd e1)
      clear e0 e1
      refine J_seq (fun σ w => ref01_Ints.p3 K w) ?_ ?_
      ·
        refine J_seq (fun σ w => vS (σ 0) fun x0A x0n x0c => vS (σ 1) fun x1A x1n x1c => vI .i64 (σ 12) fun x12 => vI .i64 (σ 13) fun x13 => ref01_Ints.p2 K x0A x0n x0c x1A x1n x1c x12 x13 w) ?_ ?_
        ·
          exact sh_sound _ _ _ _ (Eq.mp (by kernel_rfl) h)
        · intro σ w h
          obtain ⟨x0A, x0n, x0c, e0, h⟩ := vS_elim h
          obtain ⟨x1A, x1n, x1c, e1, h⟩ := vS_elim h
          obtain ⟨x12, e12, h⟩ := vI_elim h
          obtain ⟨x13, e13, h⟩ := vI_elim h
          refine J.sub ?_ (((((Sub.base _).upd e0).upd e1).upd e12).upd e13)
          clear e0 e1 e12 e13
          refine J_block ?_
          refine J_loop (fun k σ w => vS (σ 0) fun x0A x0n x0c => vS (σ 1) fun x1A x1n x1c => vI .i64 (σ 12) fun x12 => vI .i64 (σ 13) fun x13 => ref01_Ints.l0 K k x0A x0n x0c x1A x1n x1c x12 x13 w) (Eq.mp (by kernel_rfl) h) ?_ ?_
          · intro σ w h
            obtain ⟨x0A, x0n, x0c, e0, h⟩ := vS_elim h
            obtain ⟨x1A, x1n, x1c, e1, h⟩ := vS_elim h
            obtain ⟨x12, e12, h⟩ := vI_elim h
            obtain ⟨x13, e13, h⟩ := vI_elim h
            exact h
          · intro k0 σ w h
            obtain ⟨x0A, x0n, x0c, e0, h⟩ := vS_elim h
            obtain ⟨x1A, x1n, x1c, e1, h⟩ := vS_elim h
            obtain ⟨x12, e12, h⟩ := vI_elim h
            obtain ⟨x13, e13, h⟩ := vI_elim h
            refine J.sub ?_ (((((Sub.base _).upd e0).upd e1).upd e12).upd e13)
            clear e0 e1 e12 e13
            exact sh_sound _ _ _ _ (Eq.mp (by kernel_rfl) h)
      · intro σ w h
        refine J.sub ?_ (Sub.base _)
        exact sh_sound _ _ _ _ (Eq.mp (by kernel_rfl) h)

/-! ### hayloft/hayloftref06.Pages: function 52 -/
abbrev ref06_Pages.F (q0 : Int) (K : Value → World → Prop) (w : World) : Prop :=
  CallsE Tryd.prog 62 #[.int .i64 q0] w (fun v1 w2 => ∃ (n3 : Int), v1 = .int .i64 n3 ∧ condP (decide (n3 < (0 : Int))) (K (.int .i64 0) w2) (CallsE Tryd.prog 62 #[.int .i64 q0] w2 (fun v4 w5 => ∃ (n6 : Int), v4 = .int .i64 n6 ∧ condP (decide (n6 < (7 : Int))) (K (.int .i64 1) w5) ((256 : Int) ≠ 0 ∧ K (.int .i64 (IntKind.wrap .i64 (Int.tdiv (IntKind.wrap .i64 (q0 + (255 : Int))) 256))) w5))))
theorem ref06_Pages.ok {q0 : Int} {K : Value → World → Prop} {w : World} (h : ref06_Pages.F q0 K w) :
    CallsE Tryd.prog 52 #[.int .i64 q0] w K := by
  refine calls_of_J (n := 12) (rs := [.tmp 2]) Tryd.func52 rfl rfl rfl rfl ?_
  exact sh_sound _ _ _ _ (Eq.mp (by kernel_rfl) h)

/-! ### hayloft/set.New: function 53 -/
abbrev set_New.F (q0 : Int) (K : Value → World → Prop) (w : World) : Prop :=
  (64 : Int) ≠ 0 ∧ (0 ≤ (IntKind.wrap .i64 (Int.tdiv (IntKind.wrap .i64 ((imax 0 (imin q0 65536)) + (63 : Int))) 64)) ∧ (IntKind.wrap .i64 (Int.tdiv (IntKind.wrap .i64 ((imax 0 (imin q0 65536)) + (63 : Int))) 64)) ≤ (IntKind.wrap .i64 (Int.tdiv (IntKind.wrap .i64 ((imax 0 (imin q0 65536)) + (63 : Int))) 64)) ∧ (8 : Int) * (IntKind.wrap .i64 (Int.tdiv (IntKind.wrap .i64 ((imax 0 (imin q0 65536)) + (63 : Int))) 64)) ≤ 281474976710656 ∧ (IntKind.wrap .i64 (Int.tdiv (IntKind.wrap .i64 ((imax 0 (imin q0 65536)) + (63 : Int))) 64)) ≤ 9223372036854775807) ∧ wlet (w.alloc (.cells (madeCells #[.int .u64 0] ((IntKind.wrap .i64 (Int.tdiv (IntKind.wrap .i64 ((imax 0 (imin q0 65536)) + (63 : Int))) 64)).toNat * 1)) 54)) fun w1 => wlet (w1.alloc (.cells #[.int .i64 (imax 0 (imin q0 65536)), .slice (some ⟨w.heap.size, 0, none⟩) ((IntKind.wrap .i64 (Int.tdiv (IntKind.wrap .i64 ((imax 0 (imin q0 65536)) + (63 : Int))) 64)).toNat) ((IntKind.wrap .i64 (Int.tdiv (IntKind.wrap .i64 ((imax 0 (imin q0 65536)) + (63 : Int))) 64)).toNat)] 93)) fun w2 => K (.pointer (some (⟨w1.heap.size, 0, none⟩))) w2
theorem set_New.ok {q0 : Int} {K : Value → World → Prop} {w : World} (h : set_New.F q0 K w) :
    CallsE Tryd.prog 53 #[.int .i64 q0] w K := by
  refine calls_of_J (n := 13) (rs := [.tmp 2]) Tryd.func53 rfl rfl rfl rfl ?_
  exact sh_sound _ _ _ _ (Eq.mp (by kernel_rfl) h)

/-! ### (*hayloft/set.Set).Len: function 54 -/
abbrev set_Set_Len.F (q0 : Option Addr) (K : Value → World → Prop) (w : World) : Prop :=
  condP q0.isNone (K (.int .i64 0) w) (∃ (a1 : Addr), q0 = some a1 ∧ ∃ (n2 : Int), w.cell? a1 = some (.int .i64 n2) ∧ K (.int .i64 n2) w)
theorem set_Set_Len.ok {q0 : Option Addr} {K : Value → World → Prop} {w : World} (h : set_Set_Len.F q0 K w) :
    CallsE Tryd.prog 54 #[.pointer q0] w K := by
  refine calls_of_J (n := 9) (rs := [.tmp 2]) Tryd.func54 rfl rfl rfl rfl ?_
  exact sh_sound _ _ _ _ (Eq.mp (by kernel_rfl) h)

/-! ### (*hayloft/set.Set).Has: function 55 -/
abbrev set_Set_Has.p1 (K : Value → World → Prop) (x4 : Bool) (w : World) : Prop :=
  K (.bool x4) w
abbrev set_Set_Has.p0 (K : Value → World → Prop) (x0 : Option Addr) (x1 : Int) (w : World) : Prop :=
  condP (decide ((0 : Int) ≤ x1)) (CallsE Tryd.prog 54 #[.pointer x0] w (fun v1 w2 => ∃ (n3 : Int), v1 = .int .i64 n3 ∧ condP (decide (x1 < n3)) (∃ (a4 : Addr), x0 = some a4 ∧ ∃ (A5 : Option Addr) (m6 : Nat) (c7 : Nat), w2.cell? (a4.add 1) = some (.slice A5 m6 c7) ∧ (64 : Int) ≠ 0 ∧ (0 ≤ (IntKind.wrap .i64 (Int.tdiv x1 64)) ∧ (IntKind.wrap .i64 (Int.tdiv x1 64)) < ((m6 : Nat) : Int)) ∧ ∃ (a8 : Addr), A5 = some a8 ∧ ∃ (n9 : Int), w2.cell? (a8.add ((IntKind.wrap .i64 (Int.tdiv x1 64)).toNat)) = some (.int .u64 n9) ∧ (64 : Int) ≠ 0 ∧ 0 ≤ (Int.tmod x1 64) ∧ set_Set_Has.p1 K ((ibits .and .u64 (ishr .u64 n9 (Int.tmod x1 64)) 1) == (1 : Int)) w2) (set_Set_Has.p1 K false w2))) (set_Set_Has.p1 K false w)
abbrev set_Set_Has.F (q0 : Option Addr) (q1 : Int) (K : Value → World → Prop) (w : World) : Prop :=
  set_Set_Has.p0 K q0 q1 w
theorem set_Set_Has.ok {q0 : Option Addr} {q1 : Int} {K : Value → World → Prop} {w : World} (h : set_Set_Has.F q0 q1 K w) :
    CallsE Tryd.prog 55 #[.pointer q0, .int .i64 q1] w K := by
  refine calls_of_J (n := 28) (rs := [.tmp 4]) Tryd.func55 rfl rfl rfl rfl ?_
  refine J_seq (fun σ w => vP (σ 0) fun x0 => vI .i64 (σ 1) fun x1 => set_Set_Has.p0 K x0 x1 w) ?_ ?_
  ·
    exact sh_sound _ _ _ _ (Eq.mp (by kernel_rfl) h)
  · intro σ w h
    obtain ⟨x0, e0, h⟩ := vP_elim h
    obtain ⟨x1, e1, h⟩ := vI_elim h
    refine J.sub ?_ (((Sub.base _).upd e0).upd e1)
    clear e0 e1
    refine J_seq (fun σ w => vB (σ 4) fun x4 => set_Set_Has.p1 K x4 w) ?_ ?_
    ·
      exact sh_sound _ _ _ _ (Eq.mp (by kernel_rfl) h)
    · intro σ w h
      obtain ⟨x4, e4, h⟩ := vB_elim h
      refine J.sub ?_ ((Sub.base _).upd e4)
      clear e4
      exact sh_sound _ _ _ _ (Eq.mp (by kernel_rfl) h)

/-! ### (*hayloft/set.Set).Count: function 56 -/
abbrev set_Set_Count.p4 (K : Value → World → Prop) (x3 : Int) (w : World) : Prop :=
  K (.int .i64 x3) w
abbrev set_Set_Count.b0 (L0 : Int → Option Addr → Nat → Nat → Int → Int → World → Prop) (K : Value → World → Prop) (x3 : Int) (x11A : Option Addr) (x11n : Nat) (x11c : Nat) (x12 : Int) (x13 : Int) (w : World) : Prop :=
  condP (decide (x13 < x12)) ((0 ≤ x13 ∧ x13 < ((x11n : Nat) : Int)) ∧ ∃ (a5 : Addr), x11A = some a5 ∧ ∃ (n6 : Int), w.cell? (a5.add x13.toNat) = some (.int .u64 n6) ∧ CallsE Tryd.prog 63 #[.int .u64 n6] w (fun v7 w8 => ∃ (n9 : Int), v7 = .int .i64 n9 ∧ L0 (IntKind.wrap .i64 (x3 + n9)) x11A x11n x11c x12 (IntKind.wrap .i64 (x13 + (1 : Int))) w8)) (set_Set_Count.p4 K x3 w)
def set_Set_Count.l0 (K : Value → World → Prop) (k : Nat) : Int → Option Addr → Nat → Nat → Int → Int → World → Prop :=
  Nat.rec (motive := fun _ => Int → Option Addr → Nat → Nat → Int → Int → World → Prop) (fun _ _ _ _ _ _ _ => False) (fun _ ih => set_Set_Count.b0 ih K) k
theorem set_Set_Count.l0_succ (K : Value → World → Prop) (k : Nat) (x3 : Int) (x11A : Option Addr) (x11n : Nat) (x11c : Nat) (x12 : Int) (x13 : Int) (w : World) : set_Set_Count.l0 K (k + 1) x3 x11A x11n x11c x12 x13 w = set_Set_Count.b0 (set_Set_Count.l0 K k) K x3 x11A x11n x11c x12 x13 w := rfl
abbrev set_Set_Count.p3 (K : Value → World → Prop) (x3 : Int) (x11A : Option Addr) (x11n : Nat) (x11c : Nat) (x12 : Int) (x13 : Int) (w : World) : Prop :=
  ∃ k, set_Set_Count.l0 K k x3 x11A x11n x11c x12 x13 w
abbrev set_Set_Count.p2 (K : Value → World → Prop) (x0 : Option Addr) (x3 : Int) (w : World) : Prop :=
  ∃ (a1 : Addr), x0 = some a1 ∧ ∃ (A2 : Option Addr) (m3 : Nat) (c4 : Nat), w.cell? (a1.add 1) = some (.slice A2 m3 c4) ∧ set_Set_Count.p3 K x3 A2 m3 c4 ((m3 : Nat) : Int) 0 w
abbrev set_Set_Count.p1 (K : Value → World → Prop) (x0 : Option Addr) (w : World) : Prop :=
  set_Set_Count.p2 K x0 0 w
abbrev set_Set_Count.p0 (K : Value → World → Prop) (x0 : Option Addr) (w : World) : Prop :=
  condP x0.isNone (K (.int .i64 0) w) (set_Set_Count.p1 K x0 w)
abbrev set_Set_Count.F (q0 : Option Addr) (K : Value → World → Prop) (w : World) : Prop :=
  set_Set_Count.p0 K q0 w
theorem set_Set_Count.ok {q0 : Option Addr} {K : Value → World → Prop} {w : World} (h : set_Set_Count.F q0 K w) :
    CallsE Tryd.prog 56 #[.pointer q0] w K := by
  refine calls_of_J (n := 23) (rs := [.tmp 2]) Tryd.func56 rfl rfl rfl rfl ?_
  refine J_seq (fun σ w => vP (σ 0) fun x0 => set_Set_Count.p0 K x0 w) ?_ ?_
  ·
    exact sh_sound _ _ _ _ (Eq.mp (by kernel_rfl) h)
  · intro σ w h
    obtain ⟨x0, e0, h⟩ := vP_elim h
    refine J.sub ?_ ((Sub.base _).upd e0)
    clear e0
    refine J_seq (fun σ w => vP (σ 0) fun x0 => set_Set_Count.p1 K x0 w) ?_ ?_
    ·
      exact sh_sound _ _ _ _ (Eq.mp (by kernel_rfl) h)
    · intro σ w h
      obtain ⟨x0, e0, h⟩ := vP_elim h
      refine J.sub ?_ ((Sub.base _).upd e0)
      clear e0
      refine J_seq (fun σ w => vP (σ 0) fun x0 => vI .i64 (σ 3) fun x3 => set_Set_Count.p2 K x0 x3 w) ?_ ?_
      ·
        exact sh_sound _ _ _ _ (Eq.mp (by kernel_rfl) h)
      · intro σ w h
        obtain ⟨x0, e0, h⟩ := vP_elim h
        obtain ⟨x3, e3, h⟩ := vI_elim h
        refine J.sub ?_ (((Sub.base _).upd e0).upd e3)
        clear e0 e3
        refine J_seq (fun σ w => vI .i64 (σ 3) fun x3 => set_Set_Count.p4 K x3 w) ?_ ?_
        ·
          refine J_seq (fun σ w => vI .i64 (σ 3) fun x3 => vS (σ 11) fun x11A x11n x11c => vI .i64 (σ 12) fun x12 => vI .i64 (σ 13) fun x13 => set_Set_Count.p3 K x3 x11A x11n x11c x12 x13 w) ?_ ?_
          ·
            exact sh_sound _ _ _ _ (Eq.mp (by kernel_rfl) h)
          · intro σ w h
            obtain ⟨x3, e3, h⟩ := vI_elim h
            obtain ⟨x11A, x11n, x11c, e11, h⟩ := vS_elim h
            obtain ⟨x12, e12, h⟩ := vI_elim h
            obtain ⟨x13, e13, h⟩ := vI_elim h
            refine J.sub ?_ (((((Sub.base _).upd e3).upd e11).upd e12).upd e13)
            clear e3 e11 e12 e13
            refine J_block ?_
            refine J_loop (fun k σ w => vI .i64 (σ 3) fun x3 => vS (σ 11) fun x11A x11n x11c => vI .i64 (σ 12) fun x12 => vI .i64 (σ 13) fun x13 => set_Set_Count.l0 K k x3 x11A x11n x11c x12 x13 w) (Eq.mp (by kernel_rfl) h) ?_ ?_
            · intro σ w h
              obtain ⟨x3, e3, h⟩ := vI_elim h
              obtain ⟨x11A, x11n, x11c, e11, h⟩ := vS_elim h
              obtain ⟨x12, e12, h⟩ := vI_elim h
              obtain ⟨x13, e13, h⟩ := vI_elim h
              exact h
            · intro k0 σ w h
              obtain ⟨x3, e3, h⟩ := vI_elim h
              obtain ⟨x11A, x11n, x11c, e11, h⟩ := vS_elim h
              obtain ⟨x12, e12, h⟩ := vI_elim h
              obtain ⟨x13, e13, h⟩ := vI_elim h
              refine J.sub ?_ (((((Sub.base _).upd e3).upd e11).upd e12).upd e13)
              clear e3 e11 e12 e13
              exact sh_sound _ _ _ _ (Eq.mp (by kernel_rfl) h)
        · intro σ w h
          obtain ⟨x3, e3, h⟩ := vI_elim h
          refine J.sub ?_ ((Sub.base _).upd e3)
          clear e3
          exact sh_sound _ _ _ _ (Eq.mp (by kernel_rfl) h)

/-! ### (hayloft/span.taken).Has: function 57 -/
abbrev span_taken_Has.F (q0_0 : Option Addr) (q1 : Int) (K : Value → World → Prop) (w : World) : Prop :=
  wlet (w.alloc (.cells #[.pointer q0_0] 71)) fun w1 => ∃ (p2 : Option Addr), w1.cell? (⟨w.heap.size, 0, none⟩) = some (.pointer p2) ∧ CallsE Tryd.prog 55 #[.pointer p2, .int .i64 q1] w1 (fun v3 w4 => ∃ (b5 : Bool), v3 = .bool b5 ∧ K (.bool b5) w4)
theorem span_taken_Has.ok {q0_0 : Option Addr} {q1 : Int} {K : Value → World → Prop} {w : World} (h : span_taken_Has.F q0_0 q1 K w) :
    CallsE Tryd.prog 57 #[.agg #[.pointer q0_0], .int .i64 q1] w K := by
  refine calls_of_J (n := 9) (rs := [.tmp 4]) Tryd.func57 rfl rfl rfl rfl ?_
  exact sh_sound _ _ _ _ (Eq.mp (by kernel_rfl) h)

/-! ### (*hayloft/set.Set).Del: function 58 -/
abbrev set_Set_Del.p2 (K : Value → World → Prop) (w : World) : Prop :=
  K (.bool true) w
abbrev set_Set_Del.p1 (K : Value → World → Prop) (x0 : Option Addr) (x1 : Int) (w : World) : Prop :=
  ∃ (S4 : Array Obj → Prop), S4 w.heap ∧ ∃ (a5 : Addr), x0 = some a5 ∧ (64 : Int) ≠ 0 ∧ (64 : Int) ≠ 0 ∧ 0 ≤ (Int.tmod x1 64) ∧ ∃ (A6 : Option Addr) (m7 : Nat) (c8 : Nat), (∀ w' : World, S4 w'.heap → w'.cell? (a5.add 1) = some (.slice A6 m7 c8)) ∧ (0 ≤ (IntKind.wrap .i64 (Int.tdiv x1 64)) ∧ (IntKind.wrap .i64 (Int.tdiv x1 64)) < ((m7 : Nat) : Int)) ∧ ∃ (a9 : Addr), A6 = some a9 ∧ ∃ (n10 : Int), (∀ w' : World, S4 w'.heap → w'.cell? (a9.add ((IntKind.wrap .i64 (Int.tdiv x1 64)).toNat)) = some (.int .u64 n10)) ∧ (0 ≤ (IntKind.wrap .i64 (Int.tdiv x1 64)) ∧ (IntKind.wrap .i64 (Int.tdiv x1 64)) < ((m7 : Nat) : Int)) ∧ ∃ (a11 : Addr), A6 = some a11 ∧ canStore w (a11.add ((IntKind.wrap .i64 (Int.tdiv x1 64)).toNat)) ∧ wlet (w.setCell (a11.add ((IntKind.wrap .i64 (Int.tdiv x1 64)).toNat)) (.int .u64 (ibits .andNot .u64 n10 (ishl .u64 1 (Int.tmod x1 64))))) fun w12 => set_Set_Del.p2 K w12
abbrev set_Set_Del.p0 (K : Value → World → Prop) (x0 : Option Addr) (x1 : Int) (w : World) : Prop :=
  CallsE Tryd.prog 55 #[.pointer x0, .int .i64 x1] w (fun v1 w2 => ∃ (b3 : Bool), v1 = .bool b3 ∧ condP (!b3) (K (.bool false) w2) (set_Set_Del.p1 K x0 x1 w2))
abbrev set_Set_Del.F (q0 : Option Addr) (q1 : Int) (K : Value → World → Prop) (w : World) : Prop :=
  set_Set_Del.p0 K q0 q1 w
theorem set_Set_Del.ok {q0 : Option Addr} {q1 : Int} {K : Value → World → Prop} {w : World} (h : set_Set_Del.F q0 q1 K w) :
    CallsE Tryd.prog 58 #[.pointer q0, .int .i64 q1] w K := by
  refine calls_of_J (n := 22) (rs := [.tmp 4]) Tryd.func58 rfl rfl rfl rfl ?_
  refine J_seq (fun σ w => vP (σ 0) fun x0 => vI .i64 (σ 1) fun x1 => set_Set_Del.p0 K x0 x1 w) ?_ ?_
  ·
    exact sh_sound _ _ _ _ (Eq.mp (by kernel_rfl) h)
  · intro σ w h
    obtain ⟨x0, e0, h⟩ := vP_elim h
    obtain ⟨x1, e1, h⟩ := vI_elim h
    refine J.sub ?_ (((Sub.base _).upd e0).upd e1)
    clear e0 e1
    refine J_seq (fun σ w => vP (σ 0) fun x0 => vI .i64 (σ 1) fun x1 => set_Set_Del.p1 K x0 x1 w) ?_ ?_
    ·
      exact sh_sound _ _ _ _ (Eq.mp (by kernel_rfl) h)
    · intro σ w h
      obtain ⟨x0, e0, h⟩ := vP_elim h
      obtain ⟨x1, e1, h⟩ := vI_elim h
      refine J.sub ?_ (((Sub.base _).upd e0).upd e1)
      clear e0 e1
      refine J_seq (fun σ w => set_Set_Del.p2 K w) ?_ ?_
      ·
        exact J_held [13] [(0, 0), (1, 0), (2, 0), (4, 0), (5, 0), (8, 0), (9, 0), (10, 0), (3, 1), (6, 0), (7, 1), (11, 0), (12, 0), (13, 3)] (by kernel_rfl) (Eq.mp (by kernel_rfl) h)
      · intro σ w h
        refine J.sub ?_ (Sub.base _)
        exact sh_sound _ _ _ _ (Eq.mp (by kernel_rfl) h)

/-! ### (*hayloft/set.Set).Gap: function 59 -/
abbrev set_Set_Gap.F (q0 : Option Addr) (q1 : Int) (K : Value → World → Prop) (w : World) : Prop :=
  CallsE Tryd.prog 64 #[.pointer q0, .int .i64 q1, .int .u64 18446744073709551615] w (fun v1 w2 => ∃ (n3 : Int), v1 = .int .i64 n3 ∧ K (.int .i64 n3) w2)
theorem set_Set_Gap.ok {q0 : Option Addr} {q1 : Int} {K : Value → World → Prop} {w : World} (h : set_Set_Gap.F q0 q1 K w) :
    CallsE Tryd.prog 59 #[.pointer q0, .int .i64 q1] w K := by
  refine calls_of_J (n := 8) (rs := [.tmp 4]) Tryd.func59 rfl rfl rfl rfl ?_
  exact sh_sound _ _ _ _ (Eq.mp (by kernel_rfl) h)

/-! ### (*hayloft/set.Set).First: function 60 -/
abbrev set_Set_First.F (q0 : Option Addr) (q1 : Int) (K : Value → World → Prop) (w : World) : Prop :=
  CallsE Tryd.prog 64 #[.pointer q0, .int .i64 q1, .int .u64 0] w (fun v1 w2 => ∃ (n3 : Int), v1 = .int .i64 n3 ∧ K (.int .i64 n3) w2)
theorem set_Set_First.ok {q0 : Option Addr} {q1 : Int} {K : Value → World → Prop} {w : World} (h : set_Set_First.F q0 q1 K w) :
    CallsE Tryd.prog 60 #[.pointer q0, .int .i64 q1] w K := by
  refine calls_of_J (n := 8) (rs := [.tmp 4]) Tryd.func60 rfl rfl rfl rfl ?_
  exact sh_sound _ _ _ _ (Eq.mp (by kernel_rfl) h)

/-! ### hayloft/hayloftref10.New: function 61 -/
abbrev ref10_New.p6 (K : Value → World → Prop) (x0 : Int) (x1 : Int) (x2 : Int) (w : World) : Prop :=
  CallsE Tryd.prog 33 #[.int .i64 x1] w (fun v1 w2 => ∃ (n3 : Int), v1 = .int .i64 n3 ∧ (0 ≤ n3 ∧ n3 ≤ n3 ∧ (1 : Int) * n3 ≤ 281474976710656 ∧ n3 ≤ 9223372036854775807) ∧ wlet (w2.alloc (.cells (madeCells #[.bool false] (n3.toNat * 1)) 4)) fun w4 => wlet (w4.alloc (.cells #[.int .i64 x0, .int .i64 x1, .int .i64 x2, .slice (some ⟨w2.heap.size, 0, none⟩) n3.toNat n3.toNat] 86)) fun w5 => K (.tuple #[.pointer (some (⟨w4.heap.size, 0, none⟩)), .int .i64 0]) w5)
abbrev ref10_New.p5 (K : Value → World → Prop) (x0 : Int) (x1 : Int) (x2 : Int) (x38 : Bool) (w : World) : Prop :=
  condP x38 (K (.tuple #[.pointer none, .int .i64 10]) w) (ref10_New.p6 K x0 x1 x2 w)
abbrev ref10_New.p4 (K : Value → World → Prop) (x0 : Int) (x1 : Int) (x2 : Int) (w : World) : Prop :=
  condP (decide (x0 < (0 : Int))) (ref10_New.p5 K x0 x1 x2 true w) (CallsE Tryd.prog 34 #[.int .i64 x1, .int .i64 x2] w (fun v6 w7 => ∃ (n8 : Int), v6 = .int .i64 n8 ∧ ref10_New.p5 K x0 x1 x2 (decide ((IntKind.wrap .i64 ((4096 : Int) - n8)) < x0)) w7))
abbrev ref10_New.p3 (K : Value → World → Prop) (x0 : Int) (x1 : Int) (x2 : Int) (x28 : Bool) (w : World) : Prop :=
  condP x28 (K (.tuple #[.pointer none, .int .i64 2]) w) (ref10_New.p4 K x0 x1 x2 w)
abbrev ref10_New.p2 (K : Value → World → Prop) (x0 : Int) (x1 : Int) (x2 : Int) (w : World) : Prop :=
  condP (decide (x1 < (7 : Int))) (condP (x2 != (0 : Int)) (ref10_New.p3 K x0 x1 x2 true w) (condP (x1 == (7 : Int)) (CallsE Tryd.prog 62 #[.int .i64 x2] w (fun v9 w10 => ∃ (n11 : Int), v9 = .int .i64 n11 ∧ ref10_New.p3 K x0 x1 x2 (n11 != (7 : Int)) w10)) (ref10_New.p3 K x0 x1 x2 false w))) (condP (x1 == (7 : Int)) (CallsE Tryd.prog 62 #[.int .i64 x2] w (fun v12 w13 => ∃ (n14 : Int), v12 = .int .i64 n14 ∧ ref10_New.p3 K x0 x1 x2 (n14 != (7 : Int)) w13)) (ref10_New.p3 K x0 x1 x2 false w))
abbrev ref10_New.p1 (K : Value → World → Prop) (x0 : Int) (x1 : Int) (x2 : Int) (x13 : Bool) (w : World) : Prop :=
  condP x13 (K (.tuple #[.pointer none, .int .i64 11]) w) (ref10_New.p2 K x0 x1 x2 w)
abbrev ref10_New.p0 (K : Value → World → Prop) (x0 : Int) (x1 : Int) (x2 : Int) (w : World) : Prop :=
  condP (decide (x1 < (0 : Int))) (ref10_New.p1 K x0 x1 x2 true w) (ref10_New.p1 K x0 x1 x2 (decide ((7 : Int) < x1)) w)
abbrev ref10_New.F (q0 : Int) (q1 : Int) (q2 : Int) (K : Value → World → Prop) (w : World) : Prop :=
  ref10_New.p0 K q0 q1 q2 w
theorem ref10_New.ok {q0 : Int} {q1 : Int} {q2 : Int} {K : Value → World → Prop} {w : World} (h : ref10_New.F q0 q1 q2 K w) :
    CallsE Tryd.prog 61 #[.int .i64 q0, .int .i64 q1, .int .i64 q2] w K := by
  refine calls_of_J (n := 47) (rs := [.tmp 6, .tmp 7]) Tryd.func61 rfl rfl rfl rfl ?_
  refine J_seq (fun σ w => vI .i64 (σ 0) fun x0 => vI .i64 (σ 1) fun x1 => vI .i64 (σ 2) fun x2 => ref10_New.p0 K x0 x1 x2 w) ?_ ?_
  ·
    exact sh_sound _ _ _ _ (Eq.mp (by kernel_rfl) h)
  · intro σ w h
    obtain ⟨x0, e0, h⟩ := vI_elim h
    obtain ⟨x1, e1, h⟩ := vI_elim h
    obtain ⟨x2, e2, h⟩ := vI_elim h
    refine J.sub ?_ ((((Sub.base _).upd e0).upd e1).upd e2)
    clear e0 e1 e2
    refine J_seq (fun σ w => vI .i64 (σ 0) fun x0 => vI .i64 (σ 1) fun x1 => vI .i64 (σ 2) fun x2 => ref10_New.p2 K x0 x1 x2 w) ?_ ?_
    ·
      refine J_seq (fun σ w => vI .i64 (σ 0) fun x0 => vI .i64 (σ 1) fun x1 => vI .i64 (σ 2) fun x2 => vB (σ 13) fun x13 => ref10_New.p1 K x0 x1 x2 x13 w) ?_ ?_
      ·
        exact sh_sound _ _ _ _ (Eq.mp (by kernel_rfl) h)
      · intro σ w h
        obtain ⟨x0, e0, h⟩ := vI_elim h
        obtain ⟨x1, e1, h⟩ := vI_elim h
        obtain ⟨x2, e2, h⟩ := vI_elim h
        obtain ⟨x13, e13, h⟩ := vB_elim h
        refine J.sub ?_ (((((Sub.base _).upd e0).upd e1).upd e2).upd e13)
        clear e0 e1 e2 e13
        exact sh_sound _ _ _ _ (Eq.mp (by kernel_rfl) h)
    · intro σ w h
      obtain ⟨x0, e0, h⟩ := vI_elim h
      obtain ⟨x1, e1, h⟩ := vI_elim h
      obtain ⟨x2, e2, h⟩ := vI_elim h
      refine J.sub ?_ ((((Sub.base _).upd e0).upd e1).upd e2)
      clear e0 e1 e2
      refine J_seq (fun σ w => vI .i64 (σ 0) fun x0 => vI .i64 (σ 1) fun x1 => vI .i64 (σ 2) fun x2 => ref10_New.p4 K x0 x1 x2 w) ?_ ?_
      ·
        refine J_seq (fun σ w => vI .i64 (σ 0) fun x0 => vI .i64 (σ 1) fun x1 => vI .i64 (σ 2) fun x2 => vB (σ 28) fun x28 => ref10_New.p3 K x0 x1 x2 x28 w) ?_ ?_
        ·
          exact sh_sound _ _ _ _ (Eq.mp (by kernel_rfl) h)
        · intro σ w h
          obtain ⟨x0, e0, h⟩ := vI_elim h
          obtain ⟨x1, e1, h⟩ := vI_elim h
          obtain ⟨x2, e2, h⟩ := vI_elim h
          obtain ⟨x28, e28, h⟩ := vB_elim h
          refine J.sub ?_ (((((Sub.base _).upd e0).upd e1).upd e2).upd e28)
          clear e0 e1 e2 e28
          exact sh_sound _ _ _ _ (Eq.mp (by kernel_rfl) h)
      · intro σ w h
        obtain ⟨x0, e0, h⟩ := vI_elim h
        obtain ⟨x1, e1, h⟩ := vI_elim h
        obtain ⟨x2, e2, h⟩ := vI_elim h
        refine J.sub ?_ ((((Sub.base _).upd e0).upd e1).upd e2)
        clear e0 e1 e2
        refine J_seq (fun σ w => vI .i64 (σ 0) fun x0 => vI .i64 (σ 1) fun x1 => vI .i64 (σ 2) fun x2 => ref10_New.p6 K x0 x1 x2 w) ?_ ?_
        ·
          refine J_seq (fun σ w => vI .i64 (σ 0) fun x0 => vI .i64 (σ 1) fun x1 => vI .i64 (σ 2) fun x2 => vB (σ 38) fun x38 => ref10_New.p5 K x0 x1 x2 x38 w) ?_ ?_
          ·
            exact sh_sound _ _ _ _ (Eq.mp (by kernel_rfl) h)
          · intro σ w h
            obtain ⟨x0, e0, h⟩ := vI_elim h
            obtain ⟨x1, e1, h⟩ := vI_elim h
            obtain ⟨x2, e2, h⟩ := vI_elim h
            obtain ⟨x38, e38, h⟩ := vB_elim h
            refine J.sub ?_ (((((Sub.base _).upd e0).upd e1).upd e2).upd e38)
            clear e0 e1 e2 e38
            exact sh_sound _ _ _ _ (Eq.mp (by kernel_rfl) h)
        · intro σ w h
          obtain ⟨x0, e0, h⟩ := vI_elim h
          obtain ⟨x1, e1, h⟩ := vI_elim h
          obtain ⟨x2, e2, h⟩ := vI_elim h
          refine J.sub ?_ ((((Sub.base _).upd e0).upd e1).upd e2)
          clear e0 e1 e2
          exact sh_sound _ _ _ _ (Eq.mp (by kernel_rfl) h)

/-! ### hayloft/hayloftref06.Of: function 62 -/
abbrev ref06_Of.p4 (K : Value → World → Prop) (w : World) : Prop :=
  K (.int .i64 7) w
abbrev ref06_Of.b0 (L0 : Int → Int → World → Prop) (K : Value → World → Prop) (x0 : Int) (x3 : Int) (w : World) : Prop :=
  condP (decide (x3 < (7 : Int))) (CallsE Tryd.prog 32 #[.int .i64 x3] w (fun v1 w2 => ∃ (n3 : Int), v1 = .int .i64 n3 ∧ condP (decide (x0 ≤ n3)) (K (.int .i64 x3) w2) (L0 x0 (IntKind.wrap .i64 (x3 + (1 : Int))) w2))) (ref06_Of.p4 K w)
def ref06_Of.l0 (K : Value → World → Prop) (k : Nat) : Int → Int → World → Prop :=
  Nat.rec (motive := fun _ => Int → Int → World → Prop) (fun _ _ _ => False) (fun _ ih => ref06_Of.b0 ih K) k
theorem ref06_Of.l0_succ (K : Value → World → Prop) (k : Nat) (x0 : Int) (x3 : Int) (w : World) : ref06_Of.l0 K (k + 1) x0 x3 w = ref06_Of.b0 (ref06_Of.l0 K k) K x0 x3 w := rfl
abbrev ref06_Of.p3 (K : Value → World → Prop) (x0 : Int) (x3 : Int) (w : World) : Prop :=
  ∃ k, ref06_Of.l0 K k x0 x3 w
abbrev ref06_Of.p2 (K : Value → World → Prop) (x0 : Int) (w : World) : Prop :=
  ref06_Of.p3 K x0 0 w
abbrev ref06_Of.p1 (K : Value → World → Prop) (x0 : Int) (x9 : Bool) (w : World) : Prop :=
  condP x9 (K (.int .i64 (-1)) w) (ref06_Of.p2 K x0 w)
abbrev ref06_Of.p0 (K : Value → World → Prop) (x0 : Int) (w : World) : Prop :=
  condP (decide (x0 < (1 : Int))) (ref06_Of.p1 K x0 true w) (ref06_Of.p1 K x0 (decide ((4096 : Int) < x0)) w)
abbrev ref06_Of.F (q0 : Int) (K : Value → World → Prop) (w : World) : Prop :=
  ref06_Of.p0 K q0 w
theorem ref06_Of.ok {q0 : Int} {K : Value → World → Prop} {w : World} (h : ref06_Of.F q0 K w) :
    CallsE Tryd.prog 62 #[.int .i64 q0] w K := by
  refine calls_of_J (n := 19) (rs := [.tmp 2]) Tryd.func62 rfl rfl rfl rfl ?_
  refine J_seq (fun σ w => vI .i64 (σ 0) fun x0 => ref06_Of.p0 K x0 w) ?_ ?_
  ·
    exact sh_sound _ _ _ _ (Eq.mp (by kernel_rfl) h)
  · intro σ w h
    obtain ⟨x0, e0, h⟩ := vI_elim h
    refine J.sub ?_ ((Sub.base _).upd e0)
    clear e0
    refine J_seq (fun σ w => vI .i64 (σ 0) fun x0 => ref06_Of.p2 K x0 w) ?_ ?_
    ·
      refine J_seq (fun σ w => vI .i64 (σ 0) fun x0 => vB (σ 9) fun x9 => ref06_Of.p1 K x0 x9 w) ?_ ?_
      ·
        exact sh_sound _ _ _ _ (Eq.mp (by kernel_rfl) h)
      · intro σ w h
        obtain ⟨x0, e0, h⟩ := vI_elim h
        obtain ⟨x9, e9, h⟩ := vB_elim h
        refine J.sub ?_ (((Sub.base _).upd e0).upd e9)
        clear e0 e9
        exact sh_sound _ _ _ _ (Eq.mp (by kernel_rfl) h)
    · intro σ w h
      obtain ⟨x0, e0, h⟩ := vI_elim h
      refine J.sub ?_ ((Sub.base _).upd e0)
      clear e0
      refine J_seq (fun σ w => ref06_Of.p4 K w) ?_ ?_
      ·
        refine J_seq (fun σ w => vI .i64 (σ 0) fun x0 => vI .i64 (σ 3) fun x3 => ref06_Of.p3 K x0 x3 w) ?_ ?_
        ·
          exact sh_sound _ _ _ _ (Eq.mp (by kernel_rfl) h)
        · intro σ w h
          obtain ⟨x0, e0, h⟩ := vI_elim h
          obtain ⟨x3, e3, h⟩ := vI_elim h
          refine J.sub ?_ (((Sub.base _).upd e0).upd e3)
          clear e0 e3
          refine J_block ?_
          refine J_loop (fun k σ w => vI .i64 (σ 0) fun x0 => vI .i64 (σ 3) fun x3 => ref06_Of.l0 K k x0 x3 w) (Eq.mp (by kernel_rfl) h) ?_ ?_
          · intro σ w h
            obtain ⟨x0, e0, h⟩ := vI_elim h
            obtain ⟨x3, e3, h⟩ := vI_elim h
            exact h
          · intro k0 σ w h
            obtain ⟨x0, e0, h⟩ := vI_elim h
            obtain ⟨x3, e3, h⟩ := vI_elim h
            refine J.sub ?_ (((Sub.base _).upd e0).upd e3)
            clear e0 e3
            exact sh_sound _ _ _ _ (Eq.mp (by kernel_rfl) h)
      · intro σ w h
        refine J.sub ?_ (Sub.base _)
        exact sh_sound _ _ _ _ (Eq.mp (by kernel_rfl) h)

/-! ### math/bits.OnesCount64: function 63 -/
abbrev math_bits_OnesCount64.F (q0 : Int) (K : Value → World → Prop) (w : World) : Prop :=
  0 ≤ (1 : Int) ∧ 0 ≤ (2 : Int) ∧ 0 ≤ (4 : Int) ∧ 0 ≤ (8 : Int) ∧ 0 ≤ (16 : Int) ∧ 0 ≤ (32 : Int) ∧ K (.int .i64 (ibits .and .i64 (IntKind.wrap .i64 (IntKind.wrap .u64 ((IntKind.wrap .u64 ((IntKind.wrap .u64 ((ibits .and .u64 (IntKind.wrap .u64 ((ishr .u64 (IntKind.wrap .u64 ((ibits .and .u64 (ishr .u64 (IntKind.wrap .u64 ((ibits .and .u64 (ishr .u64 q0 1) 6148914691236517205) + (ibits .and .u64 q0 6148914691236517205))) 2) 3689348814741910323) + (ibits .and .u64 (IntKind.wrap .u64 ((ibits .and .u64 (ishr .u64 q0 1) 6148914691236517205) + (ibits .and .u64 q0 6148914691236517205))) 3689348814741910323))) 4) + (IntKind.wrap .u64 ((ibits .and .u64 (ishr .u64 (IntKind.wrap .u64 ((ibits .and .u64 (ishr .u64 q0 1) 6148914691236517205) + (ibits .and .u64 q0 6148914691236517205))) 2) 3689348814741910323) + (ibits .and .u64 (IntKind.wrap .u64 ((ibits .and .u64 (ishr .u64 q0 1) 6148914691236517205) + (ibits .and .u64 q0 6148914691236517205))) 3689348814741910323))))) 1085102592571150095) + (ishr .u64 (ibits .and .u64 (IntKind.wrap .u64 ((ishr .u64 (IntKind.wrap .u64 ((ibits .and .u64 (ishr .u64 (IntKind.wrap .u64 ((ibits .and .u64 (ishr .u64 q0 1) 6148914691236517205) + (ibits .and .u64 q0 6148914691236517205))) 2) 3689348814741910323) + (ibits .and .u64 (IntKind.wrap .u64 ((ibits .and .u64 (ishr .u64 q0 1) 6148914691236517205) + (ibits .and .u64 q0 6148914691236517205))) 3689348814741910323))) 4) + (IntKind.wrap .u64 ((ibits .and .u64 (ishr .u64 (IntKind.wrap .u64 ((ibits .and .u64 (ishr .u64 q0 1) 6148914691236517205) + (ibits .and .u64 q0 6148914691236517205))) 2) 3689348814741910323) + (ibits .and .u64 (IntKind.wrap .u64 ((ibits .and .u64 (ishr .u64 q0 1) 6148914691236517205) + (ibits .and .u64 q0 6148914691236517205))) 3689348814741910323))))) 1085102592571150095) 8))) + (ishr .u64 (IntKind.wrap .u64 ((ibits .and .u64 (IntKind.wrap .u64 ((ishr .u64 (IntKind.wrap .u64 ((ibits .and .u64 (ishr .u64 (IntKind.wrap .u64 ((ibits .and .u64 (ishr .u64 q0 1) 6148914691236517205) + (ibits .and .u64 q0 6148914691236517205))) 2) 3689348814741910323) + (ibits .and .u64 (IntKind.wrap .u64 ((ibits .and .u64 (ishr .u64 q0 1) 6148914691236517205) + (ibits .and .u64 q0 6148914691236517205))) 3689348814741910323))) 4) + (IntKind.wrap .u64 ((ibits .and .u64 (ishr .u64 (IntKind.wrap .u64 ((ibits .and .u64 (ishr .u64 q0 1) 6148914691236517205) + (ibits .and .u64 q0 6148914691236517205))) 2) 3689348814741910323) + (ibits .and .u64 (IntKind.wrap .u64 ((ibits .and .u64 (ishr .u64 q0 1) 6148914691236517205) + (ibits .and .u64 q0 6148914691236517205))) 3689348814741910323))))) 1085102592571150095) + (ishr .u64 (ibits .and .u64 (IntKind.wrap .u64 ((ishr .u64 (IntKind.wrap .u64 ((ibits .and .u64 (ishr .u64 (IntKind.wrap .u64 ((ibits .and .u64 (ishr .u64 q0 1) 6148914691236517205) + (ibits .and .u64 q0 6148914691236517205))) 2) 3689348814741910323) + (ibits .and .u64 (IntKind.wrap .u64 ((ibits .and .u64 (ishr .u64 q0 1) 6148914691236517205) + (ibits .and .u64 q0 6148914691236517205))) 3689348814741910323))) 4) + (IntKind.wrap .u64 ((ibits .and .u64 (ishr .u64 (IntKind.wrap .u64 ((ibits .and .u64 (ishr .u64 q0 1) 6148914691236517205) + (ibits .and .u64 q0 6148914691236517205))) 2) 3689348814741910323) + (ibits .and .u64 (IntKind.wrap .u64 ((ibits .and .u64 (ishr .u64 q0 1) 6148914691236517205) + (ibits .and .u64 q0 6148914691236517205))) 3689348814741910323))))) 1085102592571150095) 8))) 16))) + (ishr .u64 (IntKind.wrap .u64 ((IntKind.wrap .u64 ((ibits .and .u64 (IntKind.wrap .u64 ((ishr .u64 (IntKind.wrap .u64 ((ibits .and .u64 (ishr .u64 (IntKind.wrap .u64 ((ibits .and .u64 (ishr .u64 q0 1) 6148914691236517205) + (ibits .and .u64 q0 6148914691236517205))) 2) 3689348814741910323) + (ibits .and .u64 (IntKind.wrap .u64 ((ibits .and .u64 (ishr .u64 q0 1) 6148914691236517205) + (ibits .and .u64 q0 6148914691236517205))) 3689348814741910323))) 4) + (IntKind.wrap .u64 ((ibits .and .u64 (ishr .u64 (IntKind.wrap .u64 ((ibits .and .u64 (ishr .u64 q0 1) 6148914691236517205) + (ibits .and .u64 q0 6148914691236517205))) 2) 3689348814741910323) + (ibits .and .u64 (IntKind.wrap .u64 ((ibits .and .u64 (ishr .u64 q0 1) 6148914691236517205) + (ibits .and .u64 q0 6148914691236517205))) 3689348814741910323))))) 1085102592571150095) + (ishr .u64 (ibits .and .u64 (IntKind.wrap .u64 ((ishr .u64 (IntKind.wrap .u64 ((ibits .and .u64 (ishr .u64 (IntKind.wrap .u64 ((ibits .and .u64 (ishr .u64 q0 1) 6148914691236517205) + (ibits .and .u64 q0 6148914691236517205))) 2) 3689348814741910323) + (ibits .and .u64 (IntKind.wrap .u64 ((ibits .and .u64 (ishr .u64 q0 1) 6148914691236517205) + (ibits .and .u64 q0 6148914691236517205))) 3689348814741910323))) 4) + (IntKind.wrap .u64 ((ibits .and .u64 (ishr .u64 (IntKind.wrap .u64 ((ibits .and .u64 (ishr .u64 q0 1) 6148914691236517205) + (ibits .and .u64 q0 6148914691236517205))) 2) 3689348814741910323) + (ibits .and .u64 (IntKind.wrap .u64 ((ibits .and .u64 (ishr .u64 q0 1) 6148914691236517205) + (ibits .and .u64 q0 6148914691236517205))) 3689348814741910323))))) 1085102592571150095) 8))) + (ishr .u64 (IntKind.wrap .u64 ((ibits .and .u64 (IntKind.wrap .u64 ((ishr .u64 (IntKind.wrap .u64 ((ibits .and .u64 (ishr .u64 (IntKind.wrap .u64 ((ibits .and .u64 (ishr .u64 q0 1) 6148914691236517205) + (ibits .and .u64 q0 6148914691236517205))) 2) 3689348814741910323) + (ibits .and .u64 (IntKind.wrap .u64 ((ibits .and .u64 (ishr .u64 q0 1) 6148914691236517205) + (ibits .and .u64 q0 6148914691236517205))) 3689348814741910323))) 4) + (IntKind.wrap .u64 ((ibits .and .u64 (ishr .u64 (IntKind.wrap .u64 ((ibits .and .u64 (ishr .u64 q0 1) 6148914691236517205) + (ibits .and .u64 q0 6148914691236517205))) 2) 3689348814741910323) + (ibits .and .u64 (IntKind.wrap .u64 ((ibits .and .u64 (ishr .u64 q0 1) 6148914691236517205) + (ibits .and .u64 q0 6148914691236517205))) 3689348814741910323))))) 1085102592571150095) + (ishr .u64 (ibits .and .u64 (IntKind.wrap .u64 ((ishr .u64 (IntKind.wrap .u64 ((ibits .and .u64 (ishr .u64 (IntKind.wrap .u64 ((ibits .and .u64 (ishr .u64 q0 1) 6148914691236517205) + (ibits .and .u64 q0 6148914691236517205))) 2) 3689348814741910323) + (ibits .and .u64 (IntKind.wrap .u64 ((ibits .and .u64 (ishr .u64 q0 1) 6148914691236517205) + (ibits .and .u64 q0 6148914691236517205))) 3689348814741910323))) 4) + (IntKind.wrap .u64 ((ibits .and .u64 (ishr .u64 (IntKind.wrap .u64 ((ibits .and .u64 (ishr .u64 q0 1) 6148914691236517205) + (ibits .and .u64 q0 6148914691236517205))) 2) 3689348814741910323) + (ibits .and .u64 (IntKind.wrap .u64 ((ibits .and .u64 (ishr .u64 q0 1) 6148914691236517205) + (ibits .and .u64 q0 6148914691236517205))) 3689348814741910323))))) 1085102592571150095) 8))) 16))) 32)))) 127)) w
theorem math_bits_OnesCount64.ok {q0 : Int} {K : Value → World → Prop} {w : World} (h : math_bits_OnesCount64.F q0 K w) :
    CallsE Tryd.prog 63 #[.int .u64 q0] w K := by
  refine calls_of_J (n := 35) (rs := [.tmp 2]) Tryd.func63 rfl rfl rfl rfl ?_
  exact sh_sound _ _ _ _ (Eq.mp (by kernel_rfl) h)

/-! ### (*hayloft/set.Set).next: function 64 -/
abbrev set_Set_next.p2 (K : Value → World → Prop) (w : World) : Prop :=
  K (.int .i64 (-1)) w
abbrev set_Set_next.b0 (L0 : Option Addr → Int → Int → World → Prop) (K : Value → World → Prop) (x0 : Option Addr) (x1 : Int) (x2 : Int) (w : World) : Prop :=
  CallsE Tryd.prog 54 #[.pointer x0] w (fun v1 w2 => ∃ (n3 : Int), v1 = .int .i64 n3 ∧ condP (decide (x1 < n3)) (∃ (a4 : Addr), x0 = some a4 ∧ ∃ (A5 : Option Addr) (m6 : Nat) (c7 : Nat), w2.cell? (a4.add 1) = some (.slice A5 m6 c7) ∧ (64 : Int) ≠ 0 ∧ (0 ≤ (IntKind.wrap .i64 (Int.tdiv x1 64)) ∧ (IntKind.wrap .i64 (Int.tdiv x1 64)) < ((m6 : Nat) : Int)) ∧ ∃ (a8 : Addr), A5 = some a8 ∧ ∃ (n9 : Int), w2.cell? (a8.add ((IntKind.wrap .i64 (Int.tdiv x1 64)).toNat)) = some (.int .u64 n9) ∧ (64 : Int) ≠ 0 ∧ 0 ≤ (Int.tmod x1 64) ∧ condP ((ishr .u64 (ibits .xor .u64 n9 x2) (Int.tmod x1 64)) != (0 : Int)) (CallsE Tryd.prog 65 #[.int .u64 (ishr .u64 (ibits .xor .u64 n9 x2) (Int.tmod x1 64))] w2 (fun v10 w11 => ∃ (n12 : Int), v10 = .int .i64 n12 ∧ ∃ (a13 : Addr), x0 = some a13 ∧ ∃ (n14 : Int), w11.cell? a13 = some (.int .i64 n14) ∧ condP (decide ((IntKind.wrap .i64 (x1 + n12)) < n14)) (K (.int .i64 (IntKind.wrap .i64 (x1 + n12))) w11) (K (.int .i64 (-1)) w11))) ((64 : Int) ≠ 0 ∧ L0 x0 (IntKind.wrap .i64 ((IntKind.wrap .i64 ((IntKind.wrap .i64 (Int.tdiv x1 64)) * (64 : Int))) + (64 : Int))) x2 w2)) (set_Set_next.p2 K w2))
def set_Set_next.l0 (K : Value → World → Prop) (k : Nat) : Option Addr → Int → Int → World → Prop :=
  Nat.rec (motive := fun _ => Option Addr → Int → Int → World → Prop) (fun _ _ _ _ => False) (fun _ ih => set_Set_next.b0 ih K) k
theorem set_Set_next.l0_succ (K : Value → World → Prop) (k : Nat) (x0 : Option Addr) (x1 : Int) (x2 : Int) (w : World) : set_Set_next.l0 K (k + 1) x0 x1 x2 w = set_Set_next.b0 (set_Set_next.l0 K k) K x0 x1 x2 w := rfl
abbrev set_Set_next.p1 (K : Value → World → Prop) (x0 : Option Addr) (x1 : Int) (x2 : Int) (w : World) : Prop :=
  ∃ k, set_Set_next.l0 K k x0 x1 x2 w
abbrev set_Set_next.p0 (K : Value → World → Prop) (x0 : Option Addr) (x1 : Int) (x2 : Int) (w : World) : Prop :=
  set_Set_next.p1 K x0 (imax 0 x1) x2 w
abbrev set_Set_next.F (q0 : Option Addr) (q1 : Int) (q2 : Int) (K : Value → World → Prop) (w : World) : Prop :=
  set_Set_next.p0 K q0 q1 q2 w
theorem set_Set_next.ok {q0 : Option Addr} {q1 : Int} {q2 : Int} {K : Value → World → Prop} {w : World} (h : set_Set_next.F q0 q1 q2 K w) :
    CallsE Tryd.prog 64 #[.pointer q0, .int .i64 q1, .int .u64 q2] w K := by
  refine calls_of_J (n := 45) (rs := [.tmp 6]) Tryd.func64 rfl rfl rfl rfl ?_
  refine J_seq (fun σ w => vP (σ 0) fun x0 => vI .i64 (σ 1) fun x1 => vI .u64 (σ 2) fun x2 => set_Set_next.p0 K x0 x1 x2 w) ?_ ?_
  ·
    exact sh_sound _ _ _ _ (Eq.mp (by kernel_rfl) h)
  · intro σ w h
    obtain ⟨x0, e0, h⟩ := vP_elim h
    obtain ⟨x1, e1, h⟩ := vI_elim h
    obtain ⟨x2, e2, h⟩ := vI_elim h
    refine J.sub ?_ ((((Sub.base _).upd e0).upd e1).upd e2)
    clear e0 e1 e2
    refine J_seq (fun σ w => vP (σ 0) fun x0 => vI .i64 (σ 1) fun x1 => vI .u64 (σ 2) fun x2 => set_Set_next.p1 K x0 x1 x2 w) ?_ ?_
    ·
      exact sh_sound _ _ _ _ (Eq.mp (by kernel_rfl) h)
    · intro σ w h
      obtain ⟨x0, e0, h⟩ := vP_elim h
      obtain ⟨x1, e1, h⟩ := vI_elim h
      obtain ⟨x2, e2, h⟩ := vI_elim h
      refine J.sub ?_ ((((Sub.base _).upd e0).upd e1).upd e2)
      clear e0 e1 e2
      refine J_seq (fun σ w => set_Set_next.p2 K w) ?_ ?_
      ·
        refine J_block ?_
        refine J_loop (fun k σ w => vP (σ 0) fun x0 => vI .i64 (σ 1) fun x1 => vI .u64 (σ 2) fun x2 => set_Set_next.l0 K k x0 x1 x2 w) (Eq.mp (by kernel_rfl) h) ?_ ?_
        · intro σ w h
          obtain ⟨x0, e0, h⟩ := vP_elim h
          obtain ⟨x1, e1, h⟩ := vI_elim h
          obtain ⟨x2, e2, h⟩ := vI_elim h
          exact h
        · intro k0 σ w h
          obtain ⟨x0, e0, h⟩ := vP_elim h
          obtain ⟨x1, e1, h⟩ := vI_elim h
          obtain ⟨x2, e2, h⟩ := vI_elim h
          refine J.sub ?_ ((((Sub.base _).upd e0).upd e1).upd e2)
          clear e0 e1 e2
          exact sh_sound _ _ _ _ (Eq.mp (by kernel_rfl) h)
      · intro σ w h
        refine J.sub ?_ (Sub.base _)
        exact sh_sound _ _ _ _ (Eq.mp (by kernel_rfl) h)

/-! ### math/bits.TrailingZeros64: function 65 -/
abbrev math_bits_TrailingZeros64.F (q0 : Int) (K : Value → World → Prop) (w : World) : Prop :=
  condP (q0 == (0 : Int)) (K (.int .i64 64) w) (0 ≤ (58 : Int) ∧ (0 ≤ (ishr .u64 (IntKind.wrap .u64 ((ibits .and .u64 q0 (IntKind.wrap .u64 (0 - q0))) * (285870213051353865 : Int))) 58) ∧ (ishr .u64 (IntKind.wrap .u64 ((ibits .and .u64 q0 (IntKind.wrap .u64 (0 - q0))) * (285870213051353865 : Int))) 58) < ((64 : Nat) : Int)) ∧ ∃ (n1 : Int), w.cell? ((⟨0, 0, none⟩ : Addr).add (idxN (ishr .u64 (IntKind.wrap .u64 ((ibits .and .u64 q0 (IntKind.wrap .u64 (0 - q0))) * (285870213051353865 : Int))) 58) 1)) = some (.int .u8 n1) ∧ K (.int .i64 (IntKind.wrap .i64 n1)) w)
theorem math_bits_TrailingZeros64.ok {q0 : Int} {K : Value → World → Prop} {w : World} (h : math_bits_TrailingZeros64.F q0 K w) :
    CallsE Tryd.prog 65 #[.int .u64 q0] w K := by
  refine calls_of_J (n := 14) (rs := [.tmp 2]) Tryd.func65 rfl rfl rfl rfl ?_
  exact sh_sound _ _ _ _ (Eq.mp (by kernel_rfl) h)

end Go.Proofs.YtklmaeefnmcmlaaDoor.F
