/-
  Parts of the proofs of this seat: what the functions compute. No condition beyond what each theorem states.
-/
import Derived.Test.YtklmaeefnmcmlaaDoorF
import Derived.Test.YtklmaeefnmcmlaaDoorRK
import Derived.Test.YtklmaeefnmcmlaaDoorA
import Derived.Lib.TrailingZeros
set_option linter.unusedVariables false
set_option linter.unusedSimpArgs false
set_option maxRecDepth 100000
namespace Go.Proofs.YtklmaeefnmcmlaaDoor.C
open Go Go.RowKit Go.Proofs.YtklmaeefnmcmlaaDoor Go.Proofs.YtklmaeefnmcmlaaDoor.Sh Go.Proofs.YtklmaeefnmcmlaaDoor.F Go.Proofs.YtklmaeefnmcmlaaDoor.R

/-- The number of the library's table among this seat's variables. -/
abbrev gTab : Nat := 0
/-! ### what the functions of math/bits answer -/
theorem shr1 (x : Nat) : ishr .u64 (x : Int) 1 = ((x / 2 : Nat) : Int) := shrN x 1 (by decide)
theorem shr2 (x : Nat) : ishr .u64 (x : Int) 2 = ((x / 4 : Nat) : Int) := shrN x 2 (by decide)
theorem shr4 (x : Nat) : ishr .u64 (x : Int) 4 = ((x / 16 : Nat) : Int) := shrN x 4 (by decide)
theorem shr8 (x : Nat) : ishr .u64 (x : Int) 8 = ((x / 256 : Nat) : Int) := shrN x 8 (by decide)
theorem shr16 (x : Nat) : ishr .u64 (x : Int) 16 = ((x / 65536 : Nat) : Int) := shrN x 16 (by decide)
theorem shr32 (x : Nat) : ishr .u64 (x : Int) 32 = ((x / 4294967296 : Nat) : Int) := shrN x 32 (by decide)
theorem addN {x y : Nat} (h : x + y < 18446744073709551616) : IntKind.wrap .u64 ((x : Int) + (y : Int)) = ((x + y : Nat) : Int) := by rw [wrapu64_in (by omega) (by omega)]; push_cast; rfl
theorem andL {x d : Nat} {D : Int} (hD : D = ((rep d 8 : Nat) : Int)) (hx : x < 18446744073709551616) (hd : rep d 8 < 18446744073709551616) : ibits .and .u64 (x : Int) D = ((x &&& rep d 8 : Nat) : Int) := by rw [hD, ibits_and hx hd]
theorem and127i {x : Nat} (hx : x < 9223372036854775808) : ibits .and .i64 (x : Int) 127 = ((x % 128 : Nat) : Int) := by
  unfold ibits
  simp only []
  have e1 : ∀ y : Nat, BitVec.ofInt (IntKind.i64).bits (y : Int) = BitVec.ofNat 64 y := fun y => BitVec.ofInt_natCast 64 y
  rw [e1, show (127 : Int) = ((127 : Nat) : Int) from rfl, e1]
  have h3 : (BitVec.ofNat 64 x &&& BitVec.ofNat 64 127).toNat = x % 128 := by
    rw [BitVec.toNat_and, BitVec.toNat_ofNat, BitVec.toNat_ofNat, Nat.mod_eq_of_lt (show x < 2 ^ 64 by omega)]
    exact Nat.and_two_pow_sub_one_eq_mod x 7
  have h4 : IntKind.wrap .i64 ((x % 128 : Nat) : Int) = ((x % 128 : Nat) : Int) := wrap64_in (by omega) (by omega)
  refine Eq.trans ?_ h4
  congr 1
  exact congrArg Nat.cast h3
theorem math_bits_OnesCount64_c {x : Nat} {K : Value → World → Prop} {w : World} (hx : x < 18446744073709551616) (hK : K (.int .i64 ((pc 64 x : Nat) : Int)) w) : CallsE Pg math_bits_OnesCount64.N #[.int .u64 (x : Int)] w K := by
  refine math_bits_OnesCount64.ok ?_
  refine ⟨by decide, by decide, by decide, by decide, by decide, by decide, ?_⟩
  have r85 : rep 85 8 = 6148914691236517205 := by decide
  have r51 : rep 51 8 = 3689348814741910323 := by decide
  have r15 : rep 15 8 = 1085102592571150095 := by decide
  have r170 : rep 170 8 = 12297829382473034410 := by decide
  have r68 : rep 68 8 = 4919131752989213764 := by decide
  have r8 : rep 8 8 = 578721382704613384 := by decide
  have a1 : ∀ y : Nat, y < 18446744073709551616 → ibits .and .u64 (y : Int) 6148914691236517205 = ((y &&& rep 85 8 : Nat) : Int) := fun y h => andL (by rw [r85]; rfl) h (by rw [r85]; decide)
  have a2 : ∀ y : Nat, y < 18446744073709551616 → ibits .and .u64 (y : Int) 3689348814741910323 = ((y &&& rep 51 8 : Nat) : Int) := fun y h => andL (by rw [r51]; rfl) h (by rw [r51]; decide)
  have a3 : ∀ y : Nat, y < 18446744073709551616 → ibits .and .u64 (y : Int) 1085102592571150095 = ((y &&& rep 15 8 : Nat) : Int) := fun y h => andL (by rw [r15]; rfl) h (by rw [r15]; decide)
  have hA := mapB_lt (g := fa) (c := 170) fa_lt 8 x
  rw [r170] at hA
  have eA := step_a 8 x
  have eB := step_b 8 (mapB fa 8 x)
  have cB := mapB_comp (f := fb) (g := fa) (fun b h => by have := fa_lt b h; omega) 8 x
  rw [cB] at eB
  have hB := mapB_lt (g := fun b => fb (fa b)) (c := 68) fba_lt 8 x
  rw [r68] at hB
  have eC := step_c 8 _ (mapB_low (g := fun b => fb (fa b)) fba_low 8 x)
  have cC := mapB_comp (f := fc) (g := fun b => fb (fa b)) (fun b h => (fba_low b h).1) 8 x
  rw [cC, mapB_same fcba 8 x] at eC
  have hC := mapB_lt (g := pc 8) (c := 8) (fun b _ => pc8_le b) 8 x
  rw [r8] at hC
  have hsum := ones_sum x
  rw [shr1, a1 (x / 2) (by omega), a1 x hx, addN (by rw [eA]; omega), eA]
  rw [shr2, a2 (mapB fa 8 x / 4) (by omega), a2 (mapB fa 8 x) (by omega), addN (by rw [eB]; omega), eB]
  rw [shr4, addN (by omega), a3 _ (by omega), eC]
  rw [shr8, addN (by omega), shr16, addN (by omega), shr32, addN (by omega)]
  rw [wrap64_in (by omega) (by omega), and127i (by omega), hsum]
  exact hK
def tz (x : Nat) : Nat := Lib.ctz 64 x
/-- The library's table lies where it was laid. -/
def Tab (w : World) : Prop := ∀ j, j < 64 → w.cell? ⟨gTab, j, none⟩ = some (.int .u8 ((Lib.deBruijn64tab.getD j 0 : Nat) : Int))
theorem Tab.kp {S : Nat → Prop} {w w' : World} (h : Tab w) (k : Kp S w w') (hS : ¬ S gTab) : Tab w' := fun j hj => by
  have h0 := h j hj
  have hc : Cs w (some ⟨gTab, j, none⟩) [.int .u8 ((Lib.deBruijn64tab.getD j 0 : Nat) : Int)] := fun i v hv => by
    cases i with
    | zero => simp at hv; exact ⟨_, rfl, by rw [← hv]; exact h0⟩
    | succ i => simp at hv
  obtain ⟨a, e, hc'⟩ := (hc.kp k (fun a e => by cases e; exact hS)).at (j := 0) rfl
  cases e
  exact hc'
theorem Tab.lt {w : World} (h : Tab w) : gTab < w.heap.size := by
  have h0 := h 0 (by decide)
  by_cases hlt : gTab < w.heap.size
  · exact hlt
  · unfold World.cell? at h0
    rw [Array.getElem?_eq_none (show w.heap.size ≤ gTab by omega)] at h0
    cases h0
theorem Tab.below {B : Nat} {w w' : World} (h : Tab w) (k : Below B w w') (hB : gTab < B) : Tab w' := h.kp (Kp.of_below' k) (by omega)
theorem tz_read {w : World} {X v : Int} {idx : Nat} {K : Value → World → Prop} (hX : X = (idx : Int)) (hi : idx < 64) (hc : w.cell? ⟨gTab, idx, none⟩ = some (.int .u8 v)) (hK : K (.int .i64 (IntKind.wrap .i64 v)) w) :
    (0 ≤ X ∧ X < ((64 : Nat) : Int)) ∧ ∃ (n1 : Int), w.cell? ((⟨gTab, 0, none⟩ : Addr).add (idxN X 1)) = some (.int .u8 n1) ∧ K (.int .i64 (IntKind.wrap .i64 n1)) w := by
  subst hX
  have ea : ((⟨gTab, 0, none⟩ : Addr).add (idxN (idx : Int) 1)) = ⟨gTab, idx, none⟩ := by
    have : idxN (idx : Int) 1 = idx := Int.toNat_natCast _
    rw [this, add_at, Nat.zero_add]
  rw [← ea] at hc
  exact ⟨⟨by omega, by omega⟩, v, hc, hK⟩
theorem tz_num {x k idx : Nat} (hx : x < 18446744073709551616) (h0 : x ≠ 0) (hlow : x &&& (18446744073709551616 - x) = k) (hidx : k * 285870213051353865 % 18446744073709551616 / 288230376151711744 = idx) :
    ishr .u64 (IntKind.wrap .u64 ((ibits .and .u64 (x : Int) (IntKind.wrap .u64 (0 - (x : Int)))) * (285870213051353865 : Int))) 58 = (idx : Int) := by
  have e1 : IntKind.wrap .u64 (0 - (x : Int)) = ((18446744073709551616 - x : Nat) : Int) := by
    rw [wrapu64_eq]; omega
  have e2 : ((k : Nat) : Int) * (285870213051353865 : Int) % 18446744073709551616 = ((k * 285870213051353865 % 18446744073709551616 : Nat) : Int) := by omega
  rw [e1, ibits_and hx (by omega), hlow, wrapu64_eq, e2, ← hidx]
  exact shrN _ 58 (by decide)
theorem math_bits_TrailingZeros64_c {x : Nat} {K : Value → World → Prop} {w : World} (hx : x < 18446744073709551616) (h0 : x ≠ 0) (hT : Tab w) (hK : K (.int .i64 ((tz x : Nat) : Int)) w) : CallsE Pg math_bits_TrailingZeros64.N #[.int .u64 (x : Int)] w K := by
  obtain ⟨hlow, hk⟩ := Lib.lowest_bit 64 x h0 hx
  obtain ⟨hi, htab⟩ := Lib.deBruijn64_at _ hk
  have hc := hT _ hi
  rw [htab] at hc
  refine math_bits_TrailingZeros64.ok ?_
  refine cond_eq (fun h => absurd h (by omega)) (fun _ => ⟨by decide, ?_⟩)
  refine tz_read (tz_num hx h0 hlow rfl) hi hc ?_
  rw [wrap64_in (by omega) (by omega)]
  exact hK
/-- The least one of a number that is not 0. -/
theorem tz_spec {x : Nat} (h0 : x ≠ 0) (hx : x < 18446744073709551616) : tz x < 64 ∧ x.testBit (tz x) = true ∧ ∀ j, j < tz x → x.testBit j = false := by
  obtain ⟨m, hm, hk⟩ := Lib.ctzFrom_spec 64 x (by omega) hx
  have e : tz x = Lib.ctzFrom 64 x := by unfold tz Lib.ctz; rw [if_neg h0]
  rw [e]
  generalize Lib.ctzFrom 64 x = t at hm hk
  refine ⟨hk, ?_, fun j hj => ?_⟩
  · rw [hm, Nat.testBit_two_pow_mul, Nat.sub_self, Nat.testBit_zero]; simp
  · rw [hm, Nat.testBit_two_pow_mul, decide_eq_false (by omega)]; rfl

end Go.Proofs.YtklmaeefnmcmlaaDoor.C
