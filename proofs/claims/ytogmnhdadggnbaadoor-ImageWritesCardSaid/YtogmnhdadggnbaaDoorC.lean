/-
  Parts of the proofs of this seat: what the functions compute. No condition beyond what each theorem states.
-/
import Derived.Test.YtogmnhdadggnbaaDoorF
import Derived.Test.YtogmnhdadggnbaaDoorRK
import Derived.Test.YtogmnhdadggnbaaDoorA
import Derived.Test.YtogmnhdadggnbaaDoorB
import Derived.Lib.TrailingZeros
set_option linter.unusedVariables false
set_option linter.unusedSimpArgs false
set_option maxRecDepth 100000
namespace Go.Proofs.YtogmnhdadggnbaaDoor.C
open Go Go.RowKit Go.Proofs.YtogmnhdadggnbaaDoor Go.Proofs.YtogmnhdadggnbaaDoor.Sh Go.Proofs.YtogmnhdadggnbaaDoor.F Go.Proofs.YtogmnhdadggnbaaDoor.R

/-! ### bits of numbers, sets of places: plain -/
def valF (S : Nat → Bool) : Nat → Nat → Nat
  | _, 0 => 0
  | b, j + 1 => (S b).toNat + 2 * valF S (b + 1) j
theorem valF_lt (S : Nat → Bool) : ∀ j b, valF S b j < 2 ^ j
  | 0, _ => by simp [valF]
  | j + 1, b => by
    have := valF_lt S j (b + 1)
    have := Bool.toNat_le (S b)
    rw [valF, Nat.pow_succ]; omega
theorem valF_bit (S : Nat → Bool) : ∀ j b i, (valF S b j).testBit i = (decide (i < j) && S (b + i))
  | 0, b, i => by simp [valF]
  | j + 1, b, 0 => by
    rw [valF, Nat.testBit_zero]
    cases S b <;> simp <;> omega
  | j + 1, b, i + 1 => by
    have e : ((S b).toNat + 2 * valF S (b + 1) j) / 2 = valF S (b + 1) j := by cases S b <;> simp <;> omega
    rw [valF, Nat.testBit_succ, e, valF_bit S j (b + 1) i]
    have e2 : b + 1 + i = b + (i + 1) := by omega
    rw [e2]
    congr 1
    exact decide_eq_decide.2 (by omega)
theorem valF_div (S : Nat → Bool) (b n j : Nat) (h : j ≤ n) : valF S b n / 2 ^ j = valF S (b + j) (n - j) := by
  apply Nat.eq_of_testBit_eq
  intro i
  rw [Nat.testBit_div_two_pow, valF_bit, valF_bit]
  have e2 : b + (i + j) = b + j + i := by omega
  rw [e2]
  congr 1
  exact decide_eq_decide.2 (by omega)
theorem valF_mod (S : Nat → Bool) (b n l : Nat) (h : l ≤ n) : valF S b n % 2 ^ l = valF S b l := by
  apply Nat.eq_of_testBit_eq
  intro i
  rw [Nat.testBit_mod_two_pow, valF_bit, valF_bit]
  by_cases hi : i < l
  · rw [decide_eq_true hi, decide_eq_true (show i < n by omega)]; simp
  · rw [decide_eq_false hi]; simp
theorem valF_same {S T : Nat → Bool} : ∀ (j b : Nat), (∀ i, b ≤ i → i < b + j → S i = T i) → valF S b j = valF T b j
  | 0, _, _ => rfl
  | j + 1, b, h => by rw [valF, valF, h b (by omega) (by omega), valF_same j (b + 1) (fun i h1 h2 => h i (by omega) (by omega))]
def upd (S : Nat → Bool) (i : Nat) (v : Bool) : Nat → Bool := fun k => if k = i then v else S k
theorem upd_self (S : Nat → Bool) (i : Nat) (v : Bool) : upd S i v i = v := by unfold upd; rw [if_pos rfl]
theorem upd_ne {S : Nat → Bool} {i k : Nat} {v : Bool} (h : k ≠ i) : upd S i v k = S k := by unfold upd; rw [if_neg h]
def wd (S : Nat → Bool) (k : Nat) : Nat := valF S (64 * k) 64
theorem wd_lt (S : Nat → Bool) (k : Nat) : wd S k < 18446744073709551616 := valF_lt S 64 (64 * k)
theorem wd_bit (S : Nat → Bool) (k i : Nat) : (wd S k).testBit i = (decide (i < 64) && S (64 * k + i)) := valF_bit S 64 (64 * k) i
theorem wd_other {S : Nat → Bool} {i k : Nat} {v : Bool} (h : k ≠ i / 64) : wd (upd S i v) k = wd S k := valF_same 64 (64 * k) fun j h1 h2 => upd_ne (by omega)
theorem wd_add (S : Nat → Bool) (i : Nat) : wd (upd S i true) (i / 64) = wd S (i / 64) ||| 2 ^ (i % 64) := by
  apply Nat.eq_of_testBit_eq
  intro j
  rw [Nat.testBit_or, wd_bit, wd_bit, Nat.testBit_two_pow]
  by_cases hj : i % 64 = j
  · rw [decide_eq_true hj, decide_eq_true (show j < 64 by omega)]
    have : 64 * (i / 64) + j = i := by omega
    rw [this, upd_self]; simp
  · rw [decide_eq_false hj, Bool.or_false]
    by_cases h64 : j < 64
    · rw [upd_ne (by omega)]
    · rw [decide_eq_false h64]; simp
theorem wd_del (S : Nat → Bool) (i : Nat) : wd (upd S i false) (i / 64) = wd S (i / 64) &&& (18446744073709551616 - (2 ^ (i % 64) + 1)) := by
  have hp : 2 ^ (i % 64) < 2 ^ 64 := Nat.pow_lt_pow_right (by decide) (Nat.mod_lt _ (by decide))
  apply Nat.eq_of_testBit_eq
  intro j
  have e64 : (18446744073709551616 : Nat) = 2 ^ 64 := by decide
  rw [Nat.testBit_and, wd_bit, wd_bit, e64, Nat.testBit_two_pow_sub_succ hp, Nat.testBit_two_pow]
  by_cases hj : i % 64 = j
  · rw [decide_eq_true hj]
    have : 64 * (i / 64) + j = i := by omega
    rw [this, upd_self]; simp
  · rw [decide_eq_false hj]
    by_cases h64 : j < 64
    · rw [upd_ne (by omega), decide_eq_true h64]; simp
    · rw [decide_eq_false h64]; simp
def ws (S : Nat → Bool) (W : Nat) : List Int := (List.range W).map fun k => (wd S k : Int)
theorem ws_len (S : Nat → Bool) (W : Nat) : (ws S W).length = W := by simp [ws]
theorem ws_at {S : Nat → Bool} {W k : Nat} (h : k < W) : (ws S W)[k]? = some ((wd S k : Nat) : Int) := by simp [ws, h]
theorem ws_set {S : Nat → Bool} {W i : Nat} {v : Bool} (h : i / 64 < W) : (ws S W).set (i / 64) ((wd (upd S i v) (i / 64) : Nat) : Int) = ws (upd S i v) W := by
  apply List.ext_getElem?
  intro k
  rw [List.getElem?_set]
  by_cases hk : i / 64 = k
  · rw [if_pos hk, ws_len, if_pos h, ← hk, ws_at h]
  · rw [if_neg hk]
    by_cases hw : k < W
    · rw [ws_at hw, ws_at hw, wd_other (by omega)]
    · rw [List.getElem?_eq_none (by rw [ws_len]; omega), List.getElem?_eq_none (by rw [ws_len]; omega)]
def ins (S : Nat → Bool) (n : Nat) : List Bool := (List.range n).map S
theorem ins_len (S : Nat → Bool) (n : Nat) : (ins S n).length = n := by simp [ins]
theorem ins_at {S : Nat → Bool} {n k : Nat} (h : k < n) : (ins S n)[k]? = some (S k) := by simp [ins, h]
theorem ins_set {S : Nat → Bool} {n i : Nat} {v : Bool} (h : i < n) : (ins S n).set i v = ins (upd S i v) n := by
  apply List.ext_getElem?
  intro k
  rw [List.getElem?_set]
  by_cases hk : i = k
  · rw [if_pos hk, ins_len, if_pos h, ← hk, ins_at h, upd_self]
  · rw [if_neg hk]
    by_cases hw : k < n
    · rw [ins_at hw, ins_at hw, upd_ne (by omega)]
    · rw [List.getElem?_eq_none (by rw [ins_len]; omega), List.getElem?_eq_none (by rw [ins_len]; omega)]
/-! operations on bits -/
theorem ibits_or {x y : Nat} (hx : x < 18446744073709551616) (hy : y < 18446744073709551616) : ibits .or .u64 (x : Int) (y : Int) = ((x ||| y : Nat) : Int) := by
  unfold ibits
  simp only []
  rw [ofInt64, ofInt64]
  have h3 : (BitVec.ofNat 64 x ||| BitVec.ofNat 64 y).toNat = x ||| y := by
    rw [BitVec.toNat_or, BitVec.toNat_ofNat, BitVec.toNat_ofNat, Nat.mod_eq_of_lt (show x < 2 ^ 64 from hx), Nat.mod_eq_of_lt (show y < 2 ^ 64 from hy)]
  have hl : x ||| y < 2 ^ 64 := Nat.or_lt_two_pow hx hy
  have h4 : IntKind.wrap .u64 ((x ||| y : Nat) : Int) = ((x ||| y : Nat) : Int) := wrapu64_in (by omega) (by omega)
  refine Eq.trans ?_ h4
  congr 1
  exact congrArg Nat.cast h3
theorem ibits_and {x y : Nat} (hx : x < 18446744073709551616) (hy : y < 18446744073709551616) : ibits .and .u64 (x : Int) (y : Int) = ((x &&& y : Nat) : Int) := by
  unfold ibits
  simp only []
  rw [ofInt64, ofInt64]
  have h3 : (BitVec.ofNat 64 x &&& BitVec.ofNat 64 y).toNat = x &&& y := by
    rw [BitVec.toNat_and, BitVec.toNat_ofNat, BitVec.toNat_ofNat, Nat.mod_eq_of_lt (show x < 2 ^ 64 from hx), Nat.mod_eq_of_lt (show y < 2 ^ 64 from hy)]
  have hl : x &&& y < 2 ^ 64 := Nat.and_lt_two_pow x hy
  have h4 : IntKind.wrap .u64 ((x &&& y : Nat) : Int) = ((x &&& y : Nat) : Int) := wrapu64_in (by omega) (by omega)
  refine Eq.trans ?_ h4
  congr 1
  exact congrArg Nat.cast h3
theorem ibits_xor {x y : Nat} (hx : x < 18446744073709551616) (hy : y < 18446744073709551616) : ibits .xor .u64 (x : Int) (y : Int) = ((x ^^^ y : Nat) : Int) := by
  unfold ibits
  simp only []
  rw [ofInt64, ofInt64]
  have h3 : (BitVec.ofNat 64 x ^^^ BitVec.ofNat 64 y).toNat = x ^^^ y := by
    rw [BitVec.toNat_xor, BitVec.toNat_ofNat, BitVec.toNat_ofNat, Nat.mod_eq_of_lt (show x < 2 ^ 64 from hx), Nat.mod_eq_of_lt (show y < 2 ^ 64 from hy)]
  have hl : x ^^^ y < 2 ^ 64 := Nat.xor_lt_two_pow hx hy
  have h4 : IntKind.wrap .u64 ((x ^^^ y : Nat) : Int) = ((x ^^^ y : Nat) : Int) := wrapu64_in (by omega) (by omega)
  refine Eq.trans ?_ h4
  congr 1
  exact congrArg Nat.cast h3
theorem ibits_andNot {x y : Nat} (hx : x < 18446744073709551616) (hy : y < 18446744073709551616) : ibits .andNot .u64 (x : Int) (y : Int) = ((x &&& (18446744073709551616 - (y + 1)) : Nat) : Int) := by
  unfold ibits
  simp only []
  rw [ofInt64, ofInt64]
  have h3 : (BitVec.ofNat 64 x &&& ~~~ BitVec.ofNat 64 y).toNat = x &&& (18446744073709551616 - (y + 1)) := by
    rw [BitVec.toNat_and, BitVec.toNat_not, BitVec.toNat_ofNat, BitVec.toNat_ofNat, Nat.mod_eq_of_lt (show x < 2 ^ 64 from hx), Nat.mod_eq_of_lt (show y < 2 ^ 64 from hy)]
    congr 1
    omega
  have hl : x &&& (18446744073709551616 - (y + 1)) < 2 ^ 64 := Nat.and_lt_two_pow x (by omega)
  have h4 : IntKind.wrap .u64 ((x &&& (18446744073709551616 - (y + 1)) : Nat) : Int) = ((x &&& (18446744073709551616 - (y + 1)) : Nat) : Int) := wrapu64_in (by omega) (by omega)
  refine Eq.trans ?_ h4
  congr 1
  exact congrArg Nat.cast h3
theorem shrN (x s : Nat) (hs : s ≤ 64) : ishr .u64 (x : Int) (s : Int) = ((x / 2 ^ s : Nat) : Int) := by
  rw [shr_eq (Int.natCast_nonneg _) hs]; exact (Int.natCast_ediv _ _).symm
theorem shl1 {s : Nat} (hs : s < 64) : ishl .u64 1 (s : Int) = ((2 ^ s : Nat) : Int) := by
  unfold ishl
  have h1 : min (s : Int).toNat (IntKind.u64).bits = s := by
    have : (IntKind.u64).bits = 64 := rfl
    rw [this, Int.toNat_natCast]; omega
  have hp : 2 ^ s < 2 ^ 64 := Nat.pow_lt_pow_right (by decide) hs
  have e : (1 : Int) * 2 ^ s = ((2 ^ s : Nat) : Int) := by rw [Int.one_mul]; push_cast; rfl
  rw [h1, e]
  generalize 2 ^ s = q at hp
  exact wrapu64_in (by omega) (by omega)
theorem and_one (x : Nat) (hx : x < 18446744073709551616) : ibits .and .u64 (x : Int) 1 = ((x % 2 : Nat) : Int) := by
  rw [show (1 : Int) = ((1 : Nat) : Int) from rfl, ibits_and hx (by decide), Nat.and_one_is_mod]
theorem wd_get (S : Nat → Bool) (i : Nat) : ((ibits .and .u64 (ishr .u64 (wd S (i / 64) : Int) ((i % 64 : Nat) : Int)) 1) == (1 : Int)) = S i := by
  have hl := wd_lt S (i / 64)
  have hd : wd S (i / 64) / 2 ^ (i % 64) < 18446744073709551616 := Nat.lt_of_le_of_lt (Nat.div_le_self _ _) hl
  rw [shrN _ _ (by omega), and_one _ hd]
  have hb := wd_bit S (i / 64) (i % 64)
  have e : 64 * (i / 64) + i % 64 = i := by omega
  rw [e, decide_eq_true (show i % 64 < 64 by omega), Bool.true_and, Nat.testBit_eq_decide_div_mod_eq] at hb
  rw [← hb]
  by_cases h : wd S (i / 64) / 2 ^ (i % 64) % 2 = 1
  · rw [h]; rfl
  · have h0 : wd S (i / 64) / 2 ^ (i % 64) % 2 = 0 := by omega
    rw [h0]; rfl
/-! counting -/
def cnt (S : Nat → Bool) : Nat → Nat → Nat
  | _, 0 => 0
  | b, n + 1 => (S b).toNat + cnt S (b + 1) n
theorem cnt_le (S : Nat → Bool) : ∀ (n b : Nat), cnt S b n ≤ n
  | 0, _ => Nat.le_refl _
  | n + 1, b => by have := cnt_le S n (b + 1); have := Bool.toNat_le (S b); rw [cnt]; omega
theorem cnt_add (S : Nat → Bool) : ∀ (m b n : Nat), cnt S b (m + n) = cnt S b m + cnt S (b + m) n
  | 0, b, n => by simp [cnt]
  | m + 1, b, n => by
    have e : m + 1 + n = (m + n) + 1 := by omega
    have e2 : b + 1 + m = b + (m + 1) := by omega
    rw [e, cnt, cnt, cnt_add S m (b + 1) n, e2]; omega
theorem cnt_none (S : Nat → Bool) : ∀ (n b : Nat), (∀ i, b ≤ i → S i = false) → cnt S b n = 0
  | 0, _, _ => rfl
  | n + 1, b, h => by rw [cnt, h b (Nat.le_refl _), cnt_none S n (b + 1) (fun i hi => h i (by omega))]; rfl
def memL (S : Nat → Bool) : Nat → Nat → List Int
  | _, 0 => []
  | b, n + 1 => if S b then (b : Int) :: memL S (b + 1) n else memL S (b + 1) n
theorem memL_len (S : Nat → Bool) : ∀ (n b : Nat), (memL S b n).length = cnt S b n
  | 0, _ => rfl
  | n + 1, b => by
    rw [memL, cnt]
    cases S b with
    | false => simp [memL_len S n (b + 1)]
    | true => simp [memL_len S n (b + 1)]; omega
def nxt (S : Nat → Bool) (want : Bool) : Nat → Nat → Int
  | _, 0 => -1
  | b, n + 1 => if S b = want then (b : Int) else nxt S want (b + 1) n
theorem nxt_skip {S : Nat → Bool} {want : Bool} {n g : Nat} : ∀ (d f : Nat), f + d = g → (∀ i, f ≤ i → i < g → S i ≠ want) → nxt S want f (n - f) = nxt S want g (n - g)
  | 0, f, h, _ => by subst h; rfl
  | d + 1, f, h, hs => by
    by_cases hf : f < n
    · obtain ⟨k, hk⟩ : ∃ k, n - f = k + 1 := ⟨n - f - 1, by omega⟩
      have hk2 : k = n - (f + 1) := by omega
      rw [hk, nxt, if_neg (hs f (Nat.le_refl _) (by omega)), hk2]
      exact nxt_skip d (f + 1) (by omega) (fun i h1 h2 => hs i (by omega) h2)
    · have e1 : n - f = 0 := by omega
      have e2 : n - g = 0 := by omega
      rw [e1, e2]; rfl
theorem nxt_here {S : Nat → Bool} {want : Bool} {n f : Nat} (h : f < n) (hs : S f = want) : nxt S want f (n - f) = f := by
  obtain ⟨k, hk⟩ : ∃ k, n - f = k + 1 := ⟨n - f - 1, by omega⟩
  rw [hk, nxt, if_pos hs]
theorem nxt_end {S : Nat → Bool} {want : Bool} {n f : Nat} (h : n ≤ f) : nxt S want f (n - f) = -1 := by
  have e1 : n - f = 0 := by omega
  rw [e1]; rfl
/-! the ones of a number of 64 bits -/
def pc : Nat → Nat → Nat
  | 0, _ => 0
  | n + 1, x => x % 2 + pc n (x / 2)
theorem pc_valF (S : Nat → Bool) : ∀ (n b : Nat), pc n (valF S b n) = cnt S b n
  | 0, _ => rfl
  | n + 1, b => by
    have e1 : ((S b).toNat + 2 * valF S (b + 1) n) % 2 = (S b).toNat := by cases S b <;> simp <;> omega
    have e2 : ((S b).toNat + 2 * valF S (b + 1) n) / 2 = valF S (b + 1) n := by cases S b <;> simp <;> omega
    rw [valF, pc, cnt, e1, e2, pc_valF S n (b + 1)]
def mapB (f : Nat → Nat) : Nat → Nat → Nat
  | 0, _ => 0
  | n + 1, x => f (x % 256) + 256 * mapB f n (x / 256)
def rep (d : Nat) : Nat → Nat
  | 0 => 0
  | n + 1 => d + 256 * rep d n
theorem land256 (x d n : Nat) (hd : d < 256) : x &&& rep d (n + 1) = (x % 256 &&& d) + 256 * (x / 256 &&& rep d n) := by
  have e1 : rep d (n + 1) % 2 ^ 8 = d := by rw [rep]; omega
  have e2 : rep d (n + 1) / 2 ^ 8 = rep d n := by rw [rep]; omega
  have h1 : (x &&& rep d (n + 1)) % 2 ^ 8 = x % 2 ^ 8 &&& rep d (n + 1) % 2 ^ 8 := Nat.and_mod_two_pow
  have h2 : (x &&& rep d (n + 1)) / 2 ^ 8 = x / 2 ^ 8 &&& rep d (n + 1) / 2 ^ 8 := Nat.and_div_two_pow
  rw [e1] at h1
  rw [e2] at h2
  have := Nat.div_add_mod (x &&& rep d (n + 1)) 256
  have h1' : (x &&& rep d (n + 1)) % 256 = x % 256 &&& d := h1
  have h2' : (x &&& rep d (n + 1)) / 256 = x / 256 &&& rep d n := h2
  rw [h1', h2'] at this
  omega
def fa (b : Nat) : Nat := (b / 2 &&& 85) + (b &&& 85)
def fb (b : Nat) : Nat := (b / 4 &&& 51) + (b &&& 51)
def fc (b : Nat) : Nat := (b / 16 + b) % 16
theorem byte_a : ∀ b : Fin 256, ∀ r : Fin 2, (b.val / 2 + 128 * r.val) &&& 85 = b.val / 2 &&& 85 := by decide +kernel
theorem byte_b : ∀ b : Fin 256, ∀ r : Fin 4, (b.val / 4 + 64 * r.val) &&& 51 = b.val / 4 &&& 51 := by decide +kernel
theorem step_a : ∀ (n x : Nat), (x / 2 &&& rep 85 n) + (x &&& rep 85 n) = mapB fa n x
  | 0, x => by simp [rep, mapB]
  | n + 1, x => by
    rw [land256 (x / 2) 85 n (by decide), land256 x 85 n (by decide), mapB, ← step_a n (x / 256)]
    have e1 : x / 2 / 256 = x / 256 / 2 := by omega
    have e2 : x / 2 % 256 = x % 256 / 2 + 128 * (x / 256 % 2) := by omega
    have := byte_a ⟨x % 256, Nat.mod_lt _ (by decide)⟩ ⟨x / 256 % 2, Nat.mod_lt _ (by decide)⟩
    simp only at this
    rw [e1, e2, this]
    unfold fa; omega
theorem step_b : ∀ (n x : Nat), (x / 4 &&& rep 51 n) + (x &&& rep 51 n) = mapB fb n x
  | 0, x => by simp [rep, mapB]
  | n + 1, x => by
    rw [land256 (x / 4) 51 n (by decide), land256 x 51 n (by decide), mapB, ← step_b n (x / 256)]
    have e1 : x / 4 / 256 = x / 256 / 4 := by omega
    have e2 : x / 4 % 256 = x % 256 / 4 + 64 * (x / 256 % 4) := by omega
    have := byte_b ⟨x % 256, Nat.mod_lt _ (by decide)⟩ ⟨x / 256 % 4, Nat.mod_lt _ (by decide)⟩
    simp only at this
    rw [e1, e2, this]
    unfold fb; omega
def Low : Nat → Nat → Prop
  | 0, y => y = 0
  | n + 1, y => (y % 256) % 16 ≤ 4 ∧ (y % 256) / 16 ≤ 4 ∧ Low n (y / 256)
theorem step_c : ∀ (n y : Nat), Low n y → (y / 16 + y) &&& rep 15 n = mapB fc n y
  | 0, y, _ => by simp [rep, mapB]
  | n + 1, y, h => by
    obtain ⟨h1, h2, h3⟩ := h
    have hq : y / 256 % 16 ≤ 4 := by
      cases n with
      | zero => have h3 : y / 256 = 0 := h3; omega
      | succ n => have := h3.1; omega
    rw [land256 _ 15 n (by decide), mapB, ← step_c n (y / 256) h3]
    have e1 : (y / 16 + y) / 256 = y / 256 / 16 + y / 256 := by omega
    have e2 : (y / 16 + y) % 256 = y % 256 / 16 + y % 256 + 16 * (y / 256 % 16) := by omega
    have e3 : ∀ z : Nat, z &&& 15 = z % 16 := fun z => Nat.and_two_pow_sub_one_eq_mod z 4
    rw [e1, e2, e3]
    unfold fc; omega
theorem mapB_mod {f : Nat → Nat} (n x : Nat) (h : f (x % 256) < 256) : mapB f (n + 1) x % 256 = f (x % 256) := by rw [mapB]; omega
theorem mapB_div {f : Nat → Nat} (n x : Nat) (h : f (x % 256) < 256) : mapB f (n + 1) x / 256 = mapB f n (x / 256) := by rw [mapB]; omega
theorem mapB_comp {f g : Nat → Nat} (hg : ∀ b, b < 256 → g b < 256) : ∀ (n x : Nat), mapB f n (mapB g n x) = mapB (fun b => f (g b)) n x
  | 0, _ => rfl
  | n + 1, x => by
    have h := hg (x % 256) (Nat.mod_lt _ (by decide))
    rw [mapB, mapB_mod n x h, mapB_div n x h, mapB_comp hg n (x / 256), mapB]
theorem mapB_same {f g : Nat → Nat} (h : ∀ b, b < 256 → f b = g b) : ∀ (n x : Nat), mapB f n x = mapB g n x
  | 0, _ => rfl
  | n + 1, x => by rw [mapB, mapB, h _ (Nat.mod_lt _ (by decide)), mapB_same h n]
theorem mapB_low {g : Nat → Nat} (hg : ∀ b, b < 256 → g b < 256 ∧ g b % 16 ≤ 4 ∧ g b / 16 ≤ 4) : ∀ (n x : Nat), Low n (mapB g n x)
  | 0, _ => rfl
  | n + 1, x => by
    have h := hg (x % 256) (Nat.mod_lt _ (by decide))
    refine ⟨?_, ?_, ?_⟩
    · rw [mapB_mod n x h.1]; exact h.2.1
    · rw [mapB_mod n x h.1]; exact h.2.2
    · rw [mapB_div n x h.1]; exact mapB_low hg n _
theorem mapB_lt {g : Nat → Nat} {c : Nat} (hg : ∀ b, b < 256 → g b ≤ c) : ∀ (n x : Nat), mapB g n x ≤ rep c n
  | 0, _ => Nat.le_refl _
  | n + 1, x => by
    have h := hg (x % 256) (Nat.mod_lt _ (by decide))
    have := mapB_lt hg n (x / 256)
    rw [mapB, rep]; omega
theorem bytes_all {p : Nat → Prop} [DecidablePred p] (h : ∀ b : Fin 256, p b.val) : ∀ b, b < 256 → p b := fun b hb => h ⟨b, hb⟩
theorem fa_lt : ∀ b, b < 256 → fa b ≤ 170 := bytes_all (p := fun b => fa b ≤ 170) (by decide +kernel)
theorem fba_low : ∀ b, b < 256 → fb (fa b) < 256 ∧ fb (fa b) % 16 ≤ 4 ∧ fb (fa b) / 16 ≤ 4 := bytes_all (p := fun b => fb (fa b) < 256 ∧ fb (fa b) % 16 ≤ 4 ∧ fb (fa b) / 16 ≤ 4) (by decide +kernel)
theorem fba_lt : ∀ b, b < 256 → fb (fa b) ≤ 68 := bytes_all (p := fun b => fb (fa b) ≤ 68) (by decide +kernel)
theorem fcba : ∀ b, b < 256 → fc (fb (fa b)) = pc 8 b := bytes_all (p := fun b => fc (fb (fa b)) = pc 8 b) (by decide +kernel)
theorem pc8_le (x : Nat) : pc 8 x ≤ 8 := by simp only [pc]; omega
theorem pc_byte (n x : Nat) : pc (8 * (n + 1)) x = pc 8 (x % 256) + pc (8 * n) (x / 256) := by
  have e : 8 * (n + 1) = 8 * n + 1 + 1 + 1 + 1 + 1 + 1 + 1 + 1 := by omega
  rw [e]
  simp only [pc]
  have e2 : x / 2 / 2 / 2 / 2 / 2 / 2 / 2 / 2 = x / 256 := by omega
  rw [e2]
  omega
theorem swar1 {c0 t0 t1 : Nat} (e0 : t0 = c0 + 256 * t1) (h0 : c0 ≤ 8) : t0 / 256 = t1 := by omega
theorem swar2 {c0 c1 c2 t0 t1 t2 t3 : Nat} (e0 : t0 = c0 + 256 * t1) (e1 : t1 = c1 + 256 * t2) (e2 : t2 = c2 + 256 * t3) (h0 : c0 ≤ 8) (h1 : c1 ≤ 8) (h2 : c2 ≤ 8) : (t0 + t1) / 65536 = t2 + t3 := by omega
theorem swar3 {l0 l1 l2 l3 t4 t5 t6 t7 : Nat} (h0 : l0 < 1000000000) (h1 : l1 < 1000000000) (h2 : l2 < 1000000000) (h3 : l3 < 1000000000) : ((l0 + 4294967296 * t4) + (l1 + 4294967296 * t5) + ((l2 + 4294967296 * t6) + (l3 + 4294967296 * t7))) / 4294967296 = t4 + t5 + (t6 + t7) := by omega
theorem swar4 {c0 c1 c2 c3 t0 t1 t2 t3 t4 : Nat} (e0 : t0 = c0 + 256 * t1) (e1 : t1 = c1 + 256 * t2) (e2 : t2 = c2 + 256 * t3) (e3 : t3 = c3 + 256 * t4) : t0 = (c0 + 256 * c1 + 65536 * c2 + 16777216 * c3) + 4294967296 * t4 := by omega
theorem swar5 {c0 c1 c2 c3 : Nat} (h0 : c0 ≤ 8) (h1 : c1 ≤ 8) (h2 : c2 ≤ 8) (h3 : c3 ≤ 8) : c0 + 256 * c1 + 65536 * c2 + 16777216 * c3 < 1000000000 := by omega
theorem swar6 {c0 c1 c2 c3 c4 c5 c6 c7 u0 u1 u2 u3 u4 u5 u6 u7 : Nat} (h0 : c0 ≤ 8) (h1 : c1 ≤ 8) (h2 : c2 ≤ 8) (h3 : c3 ≤ 8) (h4 : c4 ≤ 8) (h5 : c5 ≤ 8) (h6 : c6 ≤ 8) (h7 : c7 ≤ 8) :
    (((c0 + 256 * u0) + (c1 + 256 * u1) + ((c2 + 256 * u2) + (c3 + 256 * u3))) + ((c4 + 256 * u4) + (c5 + 256 * u5) + ((c6 + 256 * u6) + (c7 + 256 * u7)))) % 128 = c0 + (c1 + (c2 + (c3 + (c4 + (c5 + (c6 + c7)))))) := by
  have e : ((c0 + 256 * u0) + (c1 + 256 * u1) + ((c2 + 256 * u2) + (c3 + 256 * u3))) + ((c4 + 256 * u4) + (c5 + 256 * u5) + ((c6 + 256 * u6) + (c7 + 256 * u7))) = (c0 + (c1 + (c2 + (c3 + (c4 + (c5 + (c6 + c7))))))) + 128 * (2 * (u0 + u1 + u2 + u3 + u4 + u5 + u6 + u7)) := by omega
  rw [e, Nat.add_mul_mod_self_left]
  exact Nat.mod_eq_of_lt (by omega)
theorem swar {c0 c1 c2 c3 c4 c5 c6 c7 t0 t1 t2 t3 t4 t5 t6 t7 : Nat} (h0 : c0 ≤ 8) (h1 : c1 ≤ 8) (h2 : c2 ≤ 8) (h3 : c3 ≤ 8) (h4 : c4 ≤ 8) (h5 : c5 ≤ 8) (h6 : c6 ≤ 8) (h7 : c7 ≤ 8)
    (e0 : t0 = c0 + 256 * t1) (e1 : t1 = c1 + 256 * t2) (e2 : t2 = c2 + 256 * t3) (e3 : t3 = c3 + 256 * t4) (e4 : t4 = c4 + 256 * t5) (e5 : t5 = c5 + 256 * t6) (e6 : t6 = c6 + 256 * t7) (e7 : t7 = c7 + 256 * 0) :
    ((((t0 + t0 / 256) + (t0 + t0 / 256) / 65536) + ((t0 + t0 / 256) + (t0 + t0 / 256) / 65536) / 4294967296)) % 128 = c0 + (c1 + (c2 + (c3 + (c4 + (c5 + (c6 + c7)))))) := by
  rw [swar1 e0 h0, swar2 e0 e1 e2 h0 h1 h2]
  have q : (t0 + t1 + (t2 + t3)) / 4294967296 = t4 + t5 + (t6 + t7) := by
    have f0 := swar4 e0 e1 e2 e3
    have f1 := swar4 e1 e2 e3 e4
    have f2 := swar4 e2 e3 e4 e5
    have f3 := swar4 e3 e4 e5 e6
    have := swar3 (t4 := t4) (t5 := t5) (t6 := t6) (t7 := t7) (swar5 h0 h1 h2 h3) (swar5 h1 h2 h3 h4) (swar5 h2 h3 h4 h5) (swar5 h3 h4 h5 h6)
    rw [← f0, ← f1, ← f2, ← f3] at this
    exact this
  rw [q]
  have := swar6 (u0 := t1) (u1 := t2) (u2 := t3) (u3 := t4) (u4 := t5) (u5 := t6) (u6 := t7) (u7 := 0) h0 h1 h2 h3 h4 h5 h6 h7
  rw [← e0, ← e1, ← e2, ← e3, ← e4, ← e5, ← e6, ← e7] at this
  exact this
theorem ones_sum (x : Nat) : ((((mapB (pc 8) 8 x + mapB (pc 8) 8 x / 256) + (mapB (pc 8) 8 x + mapB (pc 8) 8 x / 256) / 65536) + ((mapB (pc 8) 8 x + mapB (pc 8) 8 x / 256) + (mapB (pc 8) 8 x + mapB (pc 8) 8 x / 256) / 65536) / 4294967296)) % 128 = pc 64 x := by
  have p7 : pc 64 x = pc 8 (x % 256) + pc 56 (x / 256) := pc_byte 7 x
  have p6 : pc 56 (x / 256) = pc 8 (x / 256 % 256) + pc 48 (x / 256 / 256) := pc_byte 6 _
  have p5 : pc 48 (x / 256 / 256) = pc 8 (x / 256 / 256 % 256) + pc 40 (x / 256 / 256 / 256) := pc_byte 5 _
  have p4 : pc 40 (x / 256 / 256 / 256) = pc 8 (x / 256 / 256 / 256 % 256) + pc 32 (x / 256 / 256 / 256 / 256) := pc_byte 4 _
  have p3 : pc 32 (x / 256 / 256 / 256 / 256) = pc 8 (x / 256 / 256 / 256 / 256 % 256) + pc 24 (x / 256 / 256 / 256 / 256 / 256) := pc_byte 3 _
  have p2 : pc 24 (x / 256 / 256 / 256 / 256 / 256) = pc 8 (x / 256 / 256 / 256 / 256 / 256 % 256) + pc 16 (x / 256 / 256 / 256 / 256 / 256 / 256) := pc_byte 2 _
  have p1 : pc 16 (x / 256 / 256 / 256 / 256 / 256 / 256) = pc 8 (x / 256 / 256 / 256 / 256 / 256 / 256 % 256) + pc 8 (x / 256 / 256 / 256 / 256 / 256 / 256 / 256) := pc_byte 1 _
  have p0 : pc 8 (x / 256 / 256 / 256 / 256 / 256 / 256 / 256) = pc 8 (x / 256 / 256 / 256 / 256 / 256 / 256 / 256 % 256) := pc_byte 0 _
  rw [p7, p6, p5, p4, p3, p2, p1, p0]
  exact swar (pc8_le _) (pc8_le _) (pc8_le _) (pc8_le _) (pc8_le _) (pc8_le _) (pc8_le _) (pc8_le _) (mapB.eq_2 _ _ _) (mapB.eq_2 _ _ _) (mapB.eq_2 _ _ _) (mapB.eq_2 _ _ _) (mapB.eq_2 _ _ _) (mapB.eq_2 _ _ _) (mapB.eq_2 _ _ _) (mapB.eq_2 _ _ _)
/-- The number of the library's table among this seat's variables. -/
abbrev gTab : Nat := 0
/-! ### what the functions of math/bits answer -/
theorem shr1 (x : Nat) : ishr .u64 (x : Int) 1 = ((x / 2 : Nat) : Int) := shrN x 1 (by decide)
theorem shr2 (x : Nat) : ishr .u64 (x : Int) 2 = ((x / 4 : Nat) : Int) := shrN x 2 (by decide)
theorem shr4 (x : Nat) : ishr .u64 (x : Int) 4 = ((x / 16 : Nat) : Int) := shrN x 4 (by decide)
theorem shr8 (x : Nat) : ishr .u64 (x : Int) 8 = ((x / 256 : Nat) : Int) := shrN x 8 (by decide)
theorem shr16 (x : Nat) : ishr .u64 (x : Int) 16 = ((x / 65536 : Nat) : Int) := shrN x 16 (by decide)
theorem shr32 (x : Nat) : ishr .u64 (x : Int) 32 = ((x / 4294967296 : Nat) : Int) := shrN x 32 (by decide)
theorem addN {x y : Nat} (h : x + y < 18446744073709551616) : IntKind.wrap .u64 ((x : Int) + (y : Int)) = ((x + y : Nat) : Int) := by rw [wrapu64_in (by omega) (by omega)]; push_cast; rfl
theorem andL {x d : Nat} {D : Int} (hD : D = ((rep d 8 : Nat) : Int)) (hx : x < 18446744073709551616) (hd : rep d 8 < 18446744073709551616) : ibits .and .u64 (x : Int) D = ((x &&& rep d 8 : Nat) : Int) := by rw [hD, ibits_and hx hd]
theorem and127i {x : Nat} (hx : x < 9223372036854775808) : ibits .and .i64 (x : Int) 127 = ((x % 128 : Nat) : Int) := by
  unfold ibits
  simp only []
  have e1 : ∀ y : Nat, BitVec.ofInt (IntKind.i64).bits (y : Int) = BitVec.ofNat 64 y := fun y => BitVec.ofInt_natCast 64 y
  rw [e1, show (127 : Int) = ((127 : Nat) : Int) from rfl, e1]
  have h3 : (BitVec.ofNat 64 x &&& BitVec.ofNat 64 127).toNat = x % 128 := by
    rw [BitVec.toNat_and, BitVec.toNat_ofNat, BitVec.toNat_ofNat, Nat.mod_eq_of_lt (show x < 2 ^ 64 by omega)]
    exact Nat.and_two_pow_sub_one_eq_mod x 7
  have h4 : IntKind.wrap .i64 ((x % 128 : Nat) : Int) = ((x % 128 : Nat) : Int) := wrap64_in (by omega) (by omega)
  refine Eq.trans ?_ h4
  congr 1
  exact congrArg Nat.cast h3
theorem math_bits_OnesCount64_c {x : Nat} {K : Value → World → Prop} {w : World} (hx : x < 18446744073709551616) (hK : K (.int .i64 ((pc 64 x : Nat) : Int)) w) : CallsE Pg math_bits_OnesCount64.N #[.int .u64 (x : Int)] w K := by
  refine math_bits_OnesCount64.ok ?_
  refine ⟨by decide, by decide, by decide, by decide, by decide, by decide, ?_⟩
  have r85 : rep 85 8 = 6148914691236517205 := by decide
  have r51 : rep 51 8 = 3689348814741910323 := by decide
  have r15 : rep 15 8 = 1085102592571150095 := by decide
  have r170 : rep 170 8 = 12297829382473034410 := by decide
  have r68 : rep 68 8 = 4919131752989213764 := by decide
  have r8 : rep 8 8 = 578721382704613384 := by decide
  have a1 : ∀ y : Nat, y < 18446744073709551616 → ibits .and .u64 (y : Int) 6148914691236517205 = ((y &&& rep 85 8 : Nat) : Int) := fun y h => andL (by rw [r85]; rfl) h (by rw [r85]; decide)
  have a2 : ∀ y : Nat, y < 18446744073709551616 → ibits .and .u64 (y : Int) 3689348814741910323 = ((y &&& rep 51 8 : Nat) : Int) := fun y h => andL (by rw [r51]; rfl) h (by rw [r51]; decide)
  have a3 : ∀ y : Nat, y < 18446744073709551616 → ibits .and .u64 (y : Int) 1085102592571150095 = ((y &&& rep 15 8 : Nat) : Int) := fun y h => andL (by rw [r15]; rfl) h (by rw [r15]; decide)
  have hA := mapB_lt (g := fa) (c := 170) fa_lt 8 x
  rw [r170] at hA
  have eA := step_a 8 x
  have eB := step_b 8 (mapB fa 8 x)
  have cB := mapB_comp (f := fb) (g := fa) (fun b h => by have := fa_lt b h; omega) 8 x
  rw [cB] at eB
  have hB := mapB_lt (g := fun b => fb (fa b)) (c := 68) fba_lt 8 x
  rw [r68] at hB
  have eC := step_c 8 _ (mapB_low (g := fun b => fb (fa b)) fba_low 8 x)
  have cC := mapB_comp (f := fc) (g := fun b => fb (fa b)) (fun b h => (fba_low b h).1) 8 x
  rw [cC, mapB_same fcba 8 x] at eC
  have hC := mapB_lt (g := pc 8) (c := 8) (fun b _ => pc8_le b) 8 x
  rw [r8] at hC
  have hsum := ones_sum x
  rw [shr1, a1 (x / 2) (by omega), a1 x hx, addN (by rw [eA]; omega), eA]
  rw [shr2, a2 (mapB fa 8 x / 4) (by omega), a2 (mapB fa 8 x) (by omega), addN (by rw [eB]; omega), eB]
  rw [shr4, addN (by omega), a3 _ (by omega), eC]
  rw [shr8, addN (by omega), shr16, addN (by omega), shr32, addN (by omega)]
  rw [wrap64_in (by omega) (by omega), and127i (by omega), hsum]
  exact hK
def tz (x : Nat) : Nat := Lib.ctz 64 x
/-- The library's table lies where it was laid. -/
def Tab (w : World) : Prop := ∀ j, j < 64 → w.cell? ⟨gTab, j, none⟩ = some (.int .u8 ((Lib.deBruijn64tab.getD j 0 : Nat) : Int))
theorem Tab.kp {S : Nat → Prop} {w w' : World} (h : Tab w) (k : Kp S w w') (hS : ¬ S gTab) : Tab w' := fun j hj => by
  have h0 := h j hj
  have hc : Cs w (some ⟨gTab, j, none⟩) [.int .u8 ((Lib.deBruijn64tab.getD j 0 : Nat) : Int)] := fun i v hv => by
    cases i with
    | zero => simp at hv; exact ⟨_, rfl, by rw [← hv]; exact h0⟩
    | succ i => simp at hv
  obtain ⟨a, e, hc'⟩ := (hc.kp k (fun a e => by cases e; exact hS)).at (j := 0) rfl
  cases e
  exact hc'
theorem Tab.lt {w : World} (h : Tab w) : gTab < w.heap.size := by
  have h0 := h 0 (by decide)
  by_cases hlt : gTab < w.heap.size
  · exact hlt
  · unfold World.cell? at h0
    rw [Array.getElem?_eq_none (show w.heap.size ≤ gTab by omega)] at h0
    cases h0
theorem Tab.below {B : Nat} {w w' : World} (h : Tab w) (k : Below B w w') (hB : gTab < B) : Tab w' := h.kp (Kp.of_below' k) (by omega)
theorem tz_read {w : World} {X v : Int} {idx : Nat} {K : Value → World → Prop} (hX : X = (idx : Int)) (hi : idx < 64) (hc : w.cell? ⟨gTab, idx, none⟩ = some (.int .u8 v)) (hK : K (.int .i64 (IntKind.wrap .i64 v)) w) :
    (0 ≤ X ∧ X < ((64 : Nat) : Int)) ∧ ∃ (n1 : Int), w.cell? ((⟨gTab, 0, none⟩ : Addr).add (idxN X 1)) = some (.int .u8 n1) ∧ K (.int .i64 (IntKind.wrap .i64 n1)) w := by
  subst hX
  have ea : ((⟨gTab, 0, none⟩ : Addr).add (idxN (idx : Int) 1)) = ⟨gTab, idx, none⟩ := by
    have : idxN (idx : Int) 1 = idx := Int.toNat_natCast _
    rw [this, add_at, Nat.zero_add]
  rw [← ea] at hc
  exact ⟨⟨by omega, by omega⟩, v, hc, hK⟩
theorem tz_num {x k idx : Nat} (hx : x < 18446744073709551616) (h0 : x ≠ 0) (hlow : x &&& (18446744073709551616 - x) = k) (hidx : k * 285870213051353865 % 18446744073709551616 / 288230376151711744 = idx) :
    ishr .u64 (IntKind.wrap .u64 ((ibits .and .u64 (x : Int) (IntKind.wrap .u64 (0 - (x : Int)))) * (285870213051353865 : Int))) 58 = (idx : Int) := by
  have e1 : IntKind.wrap .u64 (0 - (x : Int)) = ((18446744073709551616 - x : Nat) : Int) := by
    rw [wrapu64_eq]; omega
  have e2 : ((k : Nat) : Int) * (285870213051353865 : Int) % 18446744073709551616 = ((k * 285870213051353865 % 18446744073709551616 : Nat) : Int) := by omega
  rw [e1, ibits_and hx (by omega), hlow, wrapu64_eq, e2, ← hidx]
  exact shrN _ 58 (by decide)
theorem math_bits_TrailingZeros64_c {x : Nat} {K : Value → World → Prop} {w : World} (hx : x < 18446744073709551616) (h0 : x ≠ 0) (hT : Tab w) (hK : K (.int .i64 ((tz x : Nat) : Int)) w) : CallsE Pg math_bits_TrailingZeros64.N #[.int .u64 (x : Int)] w K := by
  obtain ⟨hlow, hk⟩ := Lib.lowest_bit 64 x h0 hx
  obtain ⟨hi, htab⟩ := Lib.deBruijn64_at _ hk
  have hc := hT _ hi
  rw [htab] at hc
  refine math_bits_TrailingZeros64.ok ?_
  refine cond_eq (fun h => absurd h (by omega)) (fun _ => ⟨by decide, ?_⟩)
  refine tz_read (tz_num hx h0 hlow rfl) hi hc ?_
  rw [wrap64_in (by omega) (by omega)]
  exact hK
/-- The least one of a number that is not 0. -/
theorem tz_spec {x : Nat} (h0 : x ≠ 0) (hx : x < 18446744073709551616) : tz x < 64 ∧ x.testBit (tz x) = true ∧ ∀ j, j < tz x → x.testBit j = false := by
  obtain ⟨m, hm, hk⟩ := Lib.ctzFrom_spec 64 x (by omega) hx
  have e : tz x = Lib.ctzFrom 64 x := by unfold tz Lib.ctz; rw [if_neg h0]
  rw [e]
  generalize Lib.ctzFrom 64 x = t at hm hk
  refine ⟨hk, ?_, fun j hj => ?_⟩
  · rw [hm, Nat.testBit_two_pow_mul, Nat.sub_self, Nat.testBit_zero]; simp
  · rw [hm, Nat.testBit_two_pow_mul, decide_eq_false (by omega)]; rfl
def bools (l : List Bool) : List Value := l.map fun x => .bool x
theorem bools_len (l : List Bool) : (bools l).length = l.length := by simp [bools]
theorem bools_at {l : List Bool} {j : Nat} {x : Bool} (h : l[j]? = some x) : (bools l)[j]? = some (.bool x) := by simp [bools, h]
theorem bools_set (l : List Bool) (i : Nat) (y : Bool) : (bools l).set i (.bool y) = bools (l.set i y) := by simp [bools, List.map_set]
theorem made_bools (n : Nat) : madeCells #[.bool false] (n * 1) = ⟨bools (List.replicate n false)⟩ := by
  rw [← Array.toList_inj, Nat.mul_one, toList_madeCells_one]
  simp [bools]
/-! ### sets: the program's -/
theorem blk_set1 {w : World} {g k : Nat} {e : TypeId} {cs : List Value} {v : Value} {Q : World → Prop} (h : Blk w g e cs) (hk : k < cs.length)
    (hQ : ∀ w', Blk w' g e (cs.set k v) → Kp (· = g) w w' → w'.heap.size = w.heap.size → Q w') : canStore w ((⟨g, 0, none⟩ : Addr).add k) ∧ wlet (w.setCell ((⟨g, 0, none⟩ : Addr).add k) v) Q := by
  have hf : ∀ l : List Value, l.flatMap (fun x => [x]) = l := fun l => by induction l with | nil => rfl | cons x l ih => rw [List.flatMap_cons, ih]; rfl
  have := blk_stores (m := 1) (f := fun x : Value => [x]) (l := cs) (k := k) (i := 0) (x := cs[k]) (y := v) (vs := [v]) (Q := Q) (by rw [hf]; exact h) (fun _ => rfl) (List.getElem?_eq_getElem hk) (Nat.le_refl 1) rfl (by rw [hf]; exact hQ)
  rw [Nat.mul_one] at this
  exact this
def SetV (w : World) (b : Nat) (p : Option Addr) (n : Nat) (S : Nat → Bool) (F : Nat → Prop) : Prop :=
  ∃ t g, p = some ⟨t, 0, none⟩ ∧ b ≤ t ∧ b ≤ g ∧ g ≠ t ∧ Blk w t Ty.set_Set [.int .i64 n, .slice (some ⟨g, 0, none⟩) ((n + 63) / 64) ((n + 63) / 64)] ∧ Blk w g Ty.uint64 (nums .u64 (ws S ((n + 63) / 64))) ∧ n ≤ 65536 ∧ F = fun i => i = t ∨ i = g
/-- No place beyond the set's own is in. -/
def Within (S : Nat → Bool) (n : Nat) : Prop := ∀ i, n ≤ i → S i = false
theorem SetV.kp {w w' : World} {b : Nat} {p : Option Addr} {n : Nat} {S : Nat → Bool} {F G : Nat → Prop} (h : SetV w b p n S F) (k : Kp G w w') (hd : ∀ i, F i → ¬ G i) : SetV w' b p n S F := by
  obtain ⟨t, g, rfl, h1, h2, h3, h4, h5, h6, rfl⟩ := h
  exact ⟨t, g, rfl, h1, h2, h3, h4.kp k (hd t (.inl rfl)), h5.kp k (hd g (.inr rfl)), h6, rfl⟩
theorem SetV.lt {w : World} {b : Nat} {p : Option Addr} {n : Nat} {S : Nat → Bool} {F : Nat → Prop} (h : SetV w b p n S F) {i : Nat} (hi : F i) : b ≤ i ∧ i < w.heap.size := by
  obtain ⟨t, g, rfl, h1, h2, h3, h4, h5, h6, rfl⟩ := h
  rcases hi with rfl | rfl
  · exact ⟨h1, h4.lt⟩
  · exact ⟨h2, h5.lt⟩
theorem SetV.below {w w' : World} {b : Nat} {p : Option Addr} {n : Nat} {S : Nat → Bool} {F : Nat → Prop} (h : SetV w b p n S F) (k : Below w.heap.size w w') : SetV w' b p n S F := h.kp (Kp.of_below k) (fun _ _ => id)
theorem SetV.base {w : World} {b b' : Nat} {p : Option Addr} {n : Nat} {S : Nat → Bool} {F : Nat → Prop} (h : SetV w b p n S F) (hb : b' ≤ b) : SetV w b' p n S F := by
  obtain ⟨t, g, rfl, h1, h2, h3, h4, h5, h6, rfl⟩ := h
  exact ⟨t, g, rfl, by omega, by omega, h3, h4, h5, h6, rfl⟩
theorem SetV.size {w : World} {b : Nat} {p : Option Addr} {n : Nat} {S : Nat → Bool} {F : Nat → Prop} (h : SetV w b p n S F) : n ≤ 65536 := by
  obtain ⟨t, g, rfl, h1, h2, h3, h4, h5, h6, rfl⟩ := h
  exact h6
theorem SetV.there {w : World} {b : Nat} {p : Option Addr} {n : Nat} {S : Nat → Bool} {F : Nat → Prop} (h : SetV w b p n S F) : p.isNone = false := by
  obtain ⟨t, g, rfl, _⟩ := h; rfl
theorem SetV.under {w w' : World} {b b0 : Nat} {p : Option Addr} {n : Nat} {S : Nat → Bool} {F : Nat → Prop} (h : SetV w b p n S F) (hb : b0 ≤ b) (hw : b0 ≤ w.heap.size) (k : Kp F w w') : Below b0 w w' :=
  k.below hw fun i hi hs => by have := (h.lt hs).1; omega
def clampN (n : Int) : Nat := (imax 0 (imin n 65536)).toNat
theorem clampN_eq (n : Int) : imax 0 (imin n 65536) = (clampN n : Int) ∧ clampN n ≤ 65536 := by
  unfold clampN imax imin
  (repeat' split) <;> omega
theorem madeN (k : IntKind) (n : Nat) : madeCells #[.int k 0] (n * 1) = ⟨nums k (List.replicate n 0)⟩ := by
  rw [← Array.toList_inj, Nat.mul_one, toList_madeCells_one]
  simp [nums]
def noneS : Nat → Bool := fun _ => false
theorem valF_none : ∀ (j b : Nat), valF noneS b j = 0
  | 0, _ => rfl
  | j + 1, b => by rw [valF, valF_none j (b + 1)]; rfl
theorem ws_none (W : Nat) : ws noneS W = List.replicate W 0 := by
  apply List.ext_getElem?
  intro k
  by_cases h : k < W
  · rw [ws_at h, List.getElem?_replicate, if_pos h]
    unfold wd
    rw [valF_none]; rfl
  · rw [List.getElem?_eq_none (by rw [ws_len]; omega), List.getElem?_eq_none (by simp; omega)]
theorem set_New_c {n : Int} {K : Value → World → Prop} {w : World} (hK : ∀ w' p F, SetV w' w.heap.size p (clampN n) noneS F → Below w.heap.size w w' → K (.pointer p) w') : CallsE Pg set_New.N #[.int .i64 n] w K := by
  refine set_New.ok ?_
  obtain ⟨e0, hm⟩ := clampN_eq n
  generalize clampN n = m at hK e0 hm
  have e1 : IntKind.wrap .i64 (Int.tdiv (IntKind.wrap .i64 ((imax 0 (imin n 65536)) + 63)) 64) = (((m + 63) / 64 : Nat) : Int) := by
    rw [e0, wrap64_in (x := (m : Int) + 63) (by omega) (by omega), Int.tdiv_eq_ediv_of_nonneg (by omega), wrap64_in (by omega) (by omega)]; omega
  unfold set_New.F
  rw [e1, e0, Int.toNat_natCast]
  refine ⟨by decide, ⟨by omega, by omega, by omega, by omega⟩, ?_⟩
  rw [madeN]
  refine wlet_intro fun w1 h1 => wlet_intro fun w2 h2 => ?_
  have hal : Below w.heap.size w w1 := by rw [h1]; exact (Below.refl _ _).alloc (Nat.le_refl _) _
  have hg : Blk w1 w.heap.size Ty.uint64 (nums .u64 (List.replicate ((m + 63) / 64) 0)) := by rw [h1]; exact Blk.new w _ _
  clear h1
  have hal2 : Below w1.heap.size w1 w2 := by rw [h2]; exact (Below.refl _ _).alloc (Nat.le_refl _) _
  have hB : Blk w2 w1.heap.size Ty.set_Set [.int .i64 m, .slice (some ⟨w.heap.size, 0, none⟩) ((m + 63) / 64) ((m + 63) / 64)] := by rw [h2]; exact Blk.new w1 _ _
  clear h2
  have hg2 := hg.kp (Kp.of_below hal2) id
  have hlt := hg.lt
  rw [← ws_none] at hg2
  exact hK w2 _ _ ⟨w1.heap.size, w.heap.size, rfl, hal.size, Nat.le_refl _, by omega, hB, hg2, hm, rfl⟩ (hal.trans (hal2.mono hal.size))
theorem set_Set_Len_c {w : World} {b : Nat} {p : Option Addr} {n : Nat} {S : Nat → Bool} {F : Nat → Prop} {K : Value → World → Prop} (h : SetV w b p n S F) (hK : K (.int .i64 n) w) : CallsE Pg set_Set_Len.N #[.pointer p] w K := by
  obtain ⟨t, g, rfl, h1, h2, h3, h4, h5, h6, rfl⟩ := h
  exact set_Set_Len.ok (condP_f ⟨_, rfl, _, h4.cell' (j := 0) rfl, hK⟩)
theorem tdivN (k d : Nat) (hk : (k : Int) ≤ 9223372036854775807) : IntKind.wrap .i64 (Int.tdiv (k : Int) (d : Int)) = ((k / d : Nat) : Int) := by
  have h : k / d ≤ k := Nat.div_le_self k d
  rw [Int.tdiv_eq_ediv_of_nonneg (Int.natCast_nonneg _), ← Int.natCast_ediv]
  generalize k / d = q at h
  exact wrap64_in (by omega) (by omega)
theorem tmodN (k d : Nat) : Int.tmod (k : Int) (d : Int) = ((k % d : Nat) : Int) := by
  rw [Int.tmod_eq_emod_of_nonneg (Int.natCast_nonneg _), ← Int.natCast_emod]
def hasV (S : Nat → Bool) (i : Int) : Bool := decide (0 ≤ i) && S i.toNat
theorem set_Set_Has_c {w : World} {b : Nat} {p : Option Addr} {n : Nat} {S : Nat → Bool} {F : Nat → Prop} {i : Int} {K : Value → World → Prop} (h : SetV w b p n S F) (hS : Within S n) (hK : K (.bool (hasV S i)) w) : CallsE Pg set_Set_Has.N #[.pointer p, .int .i64 i] w K := by
  have h0 := h
  have hsz := h.size
  obtain ⟨t, g, rfl, h1, h2, h3, h4, h5, h6, rfl⟩ := h
  refine set_Set_Has.ok ?_
  unfold hasV at hK
  refine cond_dec (fun hi => ?_) (fun hi => ?_)
  · obtain ⟨k, rfl⟩ := Int.eq_ofNat_of_zero_le hi
    rw [decide_eq_true hi, Bool.true_and, Int.toNat_natCast] at hK
    refine set_Set_Len_c h0 ⟨_, rfl, cond_dec (fun hlt => ?_) (fun hlt => ?_)⟩
    · have ed := tdivN k 64 (by omega)
      have em := tmodN k 64
      rw [show ((64 : Nat) : Int) = 64 from rfl] at ed em
      rw [ed, em, Int.toNat_natCast]
      obtain ⟨a, ea, hc⟩ := (Cs.of_blk0 h5).at (nums_at (ws_at (S := S) (show k / 64 < (n + 63) / 64 by omega)))
      refine ⟨_, rfl, _, _, _, h4.cell' (j := 1) rfl, by decide, ⟨by omega, by omega⟩, a, ea, _, hc, by decide, by omega, ?_⟩
      unfold set_Set_Has.p1
      rw [wd_get]
      exact hK
    · rw [hS k (by omega)] at hK
      exact hK
  · rw [decide_eq_false hi, Bool.false_and] at hK
    exact hK
/-- May a place be turned? -/
def canPut (S : Nat → Bool) (n : Nat) (i : Int) (v : Bool) : Bool := decide (0 ≤ i) && (decide (i < n) && (S i.toNat != v))
def putS (S : Nat → Bool) (n : Nat) (i : Int) (v : Bool) : Nat → Bool := if canPut S n i v = true then upd S i.toNat v else S
theorem canPut_true {S : Nat → Bool} {n : Nat} {i : Int} {v : Bool} (h : canPut S n i v = true) : ∃ k : Nat, i = k ∧ k < n ∧ S k = !v := by
  unfold canPut at h
  simp only [Bool.and_eq_true, decide_eq_true_eq, bne_iff_ne, ne_eq] at h
  obtain ⟨h1, h2, h3⟩ := h
  refine ⟨i.toNat, by omega, by omega, ?_⟩
  cases hs : S i.toNat <;> cases v <;> simp_all
theorem putS_within {S : Nat → Bool} {n : Nat} {i : Int} {v : Bool} (h : Within S n) : Within (putS S n i v) n := by
  unfold putS
  split
  · rename_i hc
    obtain ⟨k, rfl, hk, _⟩ := canPut_true hc
    intro j hj
    rw [Int.toNat_natCast, upd_ne (by omega)]
    exact h j hj
  · exact h
theorem add_has {S : Nat → Bool} {n : Nat} {i : Int} : canPut S n i true = (decide (0 ≤ i) && (decide (i < n) && !hasV S i)) := by
  unfold canPut hasV
  by_cases h : 0 ≤ i
  · rw [decide_eq_true h]; cases S i.toNat <;> simp
  · rw [decide_eq_false h]; simp
theorem del_has {S : Nat → Bool} {n : Nat} {i : Int} (hS : Within S n) : canPut S n i false = hasV S i := by
  unfold canPut hasV
  by_cases h : 0 ≤ i
  · rw [decide_eq_true h]
    by_cases h2 : i < n
    · rw [decide_eq_true h2]; cases S i.toNat <;> simp
    · rw [decide_eq_false h2, hS i.toNat (by omega)]; simp
  · rw [decide_eq_false h]; simp
theorem pow64 {k : Nat} : 2 ^ (k % 64) < 18446744073709551616 := show 2 ^ (k % 64) < 2 ^ 64 from Nat.pow_lt_pow_right (by decide) (Nat.mod_lt _ (by decide))
theorem set_Set_Add_c {w : World} {b : Nat} {p : Option Addr} {n : Nat} {S : Nat → Bool} {F : Nat → Prop} {i : Int} {K : Value → World → Prop} (h : SetV w b p n S F) (hS : Within S n) (hi : I64 i)
    (hK : ∀ w', SetV w' b p n (putS S n i true) F → Kp F w w' → K (.bool (canPut S n i true)) w') : CallsE Pg set_Set_Add.N #[.pointer p, .int .i64 i] w K := by
  have no : canPut S n i true = false → K (.bool false) w := fun e => by
    have := hK w (by unfold putS; rw [e]; exact h) (Kp.refl _ _)
    rw [e] at this; exact this
  refine set_Set_Add.ok ?_
  have eadd := @add_has S n i
  refine cond_dec (fun hlt => ?_) (fun hge => ?_)
  · exact no (by rw [eadd, decide_eq_false (by omega)]; rfl)
  refine set_Set_Len_c h ⟨_, rfl, cond_dec (fun hlt => ?_) (fun hlt => ?_)⟩
  · exact no (by rw [eadd, decide_eq_false (by omega : ¬ i < n)]; simp)
  refine set_Set_Has_c h hS ⟨_, rfl, ?_⟩
  rw [decide_eq_true (by omega : 0 ≤ i), decide_eq_true (by omega : i < n), Bool.true_and, Bool.true_and] at eadd
  cases hh : hasV S i with
  | true => rw [hh] at eadd; exact no eadd
  | false =>
    rw [hh] at eadd
    have eput : putS S n i true = upd S i.toNat true := by unfold putS; rw [if_pos (by rw [eadd]; rfl)]
    rw [eput, eadd] at hK
    obtain ⟨k, rfl⟩ := Int.eq_ofNat_of_zero_le (show 0 ≤ i by omega)
    rw [Int.toNat_natCast] at hK
    have hsz := h.size
    obtain ⟨t, g, rfl, h1, h2, h3, h4, h5, h6, rfl⟩ := h
    have ed := tdivN k 64 (by omega)
    have em := tmodN k 64
    rw [show ((64 : Nat) : Int) = 64 from rfl] at ed em
    refine condP_f ?_
    unfold set_Set_Add.p2
    rw [ed, em, Int.toNat_natCast, shl1 (show k % 64 < 64 by omega)]
    have hkw : k / 64 < (n + 63) / 64 := by omega
    have hc : w.cell? ((⟨g, 0, none⟩ : Addr).add (k / 64)) = some (.int .u64 ((wd S (k / 64) : Nat) : Int)) := by
      obtain ⟨a, ea, hc⟩ := (Cs.of_blk0 h5).at (nums_at (k := .u64) (ws_at (S := S) hkw))
      cases ea
      exact hc
    refine ⟨fun H => H = w.heap, rfl, _, rfl, by decide, by decide, by omega, _, _, _, fun w' e => held (h4.cell' (j := 1) rfl) w' e, ⟨by omega, by omega⟩, _, rfl, _, fun w' e => held hc w' e, ⟨by omega, by omega⟩, _, rfl, ?_⟩
    rw [ibits_or (wd_lt _ _) pow64, ← wd_add]
    refine blk_set1 h5 (by rw [nums_len, ws_len]; exact hkw) fun w' hB' hk' _ => ?_
    rw [nums_set, ws_set hkw] at hB'
    exact hK w' ⟨t, g, rfl, h1, h2, h3, h4.kp hk' (fun e => h3 e.symm), hB', h6, rfl⟩ (hk'.mono (fun i _ e => .inr e))
theorem count_loop {w : World} {A : Option Addr} {W c : Nat} {S : Nat → Bool} {K : Value → World → Prop} (hx : Cs w A (nums .u64 (ws S W))) (hW : W ≤ 2000) (hK : K (.int .i64 ((cnt S 0 (64 * W) : Nat) : Int)) w) : ∀ (d k : Nat), k + d = W → set_Set_Count.l0 K (d + 1) ((cnt S 0 (64 * k) : Nat) : Int) A W c W k w := by
  intro d
  induction d with
  | zero =>
    intro k hk
    rw [set_Set_Count.l0_succ]
    obtain rfl : k = W := by omega
    exact cond_dec (fun h => by omega) (fun _ => hK)
  | succ d ih =>
    intro k hk
    rw [set_Set_Count.l0_succ]
    refine cond_dec (fun _ => ?_) (fun h => absurd h (by omega))
    obtain ⟨a, rfl, c0⟩ := hx.at (nums_at (ws_at (S := S) (show k < W by omega)))
    refine ⟨⟨by omega, by omega⟩, a, rfl, _, c0, math_bits_OnesCount64_c (wd_lt S k) ⟨_, rfl, ?_⟩⟩
    have h1 := cnt_le S (64 * k) 0
    have h2 := cnt_le S 64 (64 * k)
    have e : pc 64 (wd S k) = cnt S (64 * k) 64 := pc_valF S 64 (64 * k)
    have e3 : cnt S 0 (64 * (k + 1)) = cnt S 0 (64 * k) + cnt S (64 * k) 64 := by
      have := cnt_add S (64 * k) 0 64
      rw [Nat.zero_add] at this
      exact this
    have e2 : IntKind.wrap .i64 (((cnt S 0 (64 * k) : Nat) : Int) + ((pc 64 (wd S k) : Nat) : Int)) = ((cnt S 0 (64 * (k + 1)) : Nat) : Int) := by
      rw [e, e3, wrap64_in (by omega) (by omega)]; push_cast; rfl
    rw [e2, cst k (by omega)]
    exact ih (k + 1) (by omega)
theorem cnt_within {S : Nat → Bool} {n m : Nat} (hS : Within S n) (h : n ≤ m) : cnt S 0 m = cnt S 0 n := by
  have e : m = n + (m - n) := by omega
  rw [e, cnt_add, cnt_none S (m - n) (0 + n) (fun i hi => hS i (by omega))]; rfl
theorem set_Set_Count_c {w : World} {b : Nat} {p : Option Addr} {n : Nat} {S : Nat → Bool} {F : Nat → Prop} {K : Value → World → Prop} (h : SetV w b p n S F) (hS : Within S n) (hK : K (.int .i64 ((cnt S 0 n : Nat) : Int)) w) : CallsE Pg set_Set_Count.N #[.pointer p] w K := by
  obtain ⟨t, g, rfl, h1, h2, h3, h4, h5, h6, rfl⟩ := h
  refine set_Set_Count.ok (condP_f ⟨_, rfl, _, _, _, h4.cell' (j := 1) rfl, (n + 63) / 64 + 1, ?_⟩)
  rw [← cnt_within hS (show n ≤ 64 * ((n + 63) / 64) by omega)] at hK
  exact count_loop (Cs.of_blk0 h5) (by omega) hK _ 0 (by omega)
def turnW (want : Bool) : Nat := if want then 0 else 18446744073709551615
theorem turn_bit (S : Nat → Bool) (want : Bool) (k i : Nat) : (wd S k ^^^ turnW want).testBit i = (decide (i < 64) && (S (64 * k + i) == want)) := by
  rw [Nat.testBit_xor, wd_bit]
  cases want with
  | true => simp [turnW]
  | false =>
    have : (18446744073709551615 : Nat) = 2 ^ 64 - 1 := by decide
    simp only [turnW, Bool.false_eq_true, if_false, this, Nat.testBit_two_pow_sub_one]
    cases S (64 * k + i) <;> cases decide (i < 64) <;> rfl
theorem turn_lt (S : Nat → Bool) (want : Bool) (k : Nat) : wd S k ^^^ turnW want < 18446744073709551616 := Nat.xor_lt_two_pow (n := 64) (wd_lt S k) (by cases want <;> decide)
theorem next_loop {w : World} {b : Nat} {p : Option Addr} {n : Nat} {S : Nat → Bool} {F : Nat → Prop} {want : Bool} {K : Value → World → Prop} (h : SetV w b p n S F) (hT : Tab w) : ∀ (d f : Nat), n ≤ 64 * (f / 64) + 64 * d → (f : Int) ≤ 9223372036854775807 → K (.int .i64 (nxt S want f (n - f))) w → set_Set_next.l0 K (d + 1) p f ((turnW want : Nat) : Int) w := by
  have hsz := h.size
  intro d
  induction d with
  | zero =>
    intro f hf hf2 hK
    rw [set_Set_next.l0_succ]
    refine set_Set_Len_c h ⟨_, rfl, cond_dec (fun h => by omega) (fun _ => ?_)⟩
    rw [nxt_end (by omega)] at hK
    exact hK
  | succ d ih =>
    intro f hf hf2 hK
    rw [set_Set_next.l0_succ]
    refine set_Set_Len_c h ⟨_, rfl, cond_dec (fun hlt => ?_) (fun hlt => ?_)⟩
    · have h0 := h
      obtain ⟨t, g, rfl, h1, h2, h3, h4, h5, h6, rfl⟩ := h
      have ed := tdivN f 64 (by omega)
      have em := tmodN f 64
      rw [show ((64 : Nat) : Int) = 64 from rfl] at ed em
      rw [ed, em, Int.toNat_natCast]
      obtain ⟨a, ea, hc⟩ := (Cs.of_blk0 h5).at (nums_at (ws_at (S := S) (show f / 64 < (n + 63) / 64 by omega)))
      refine ⟨_, rfl, _, _, _, h4.cell' (j := 1) rfl, by decide, ⟨by omega, by omega⟩, a, ea, _, hc, by decide, by omega, ?_⟩
      have ex : ishr .u64 (ibits .xor .u64 ((wd S (f / 64) : Nat) : Int) ((turnW want : Nat) : Int)) ((f % 64 : Nat) : Int) = (((wd S (f / 64) ^^^ turnW want) / 2 ^ (f % 64) : Nat) : Int) := by
        rw [ibits_xor (wd_lt _ _) (by cases want <;> decide), shrN _ _ (by omega)]
      rw [ex]
      have hlt64 := turn_lt S want (f / 64)
      have hbit : ∀ i, ((wd S (f / 64) ^^^ turnW want) / 2 ^ (f % 64)).testBit i = (decide (i + f % 64 < 64) && (S (f + i) == want)) := fun i => by
        rw [Nat.testBit_div_two_pow, turn_bit]
        have : 64 * (f / 64) + (i + f % 64) = f + i := by omega
        rw [this]
      have hvl : (wd S (f / 64) ^^^ turnW want) / 2 ^ (f % 64) < 18446744073709551616 := Nat.lt_of_le_of_lt (Nat.div_le_self _ _) hlt64
      generalize (wd S (f / 64) ^^^ turnW want) / 2 ^ (f % 64) = v at hbit hvl
      refine cond_ne (fun hv => ?_) (fun hv => ?_)
      · have hv0 : v ≠ 0 := by omega
        obtain ⟨z1, z2, z3⟩ := tz_spec hv0 hvl
        refine math_bits_TrailingZeros64_c hvl hv0 hT ⟨_, rfl, _, rfl, _, h4.cell' (j := 0) rfl, ?_⟩
        rw [hbit] at z2
        simp only [Bool.and_eq_true, decide_eq_true_eq, beq_iff_eq] at z2
        have hskip : nxt S want f (n - f) = nxt S want (f + tz v) (n - (f + tz v)) := nxt_skip (tz v) f rfl fun i i1 i2 e => by
          have := z3 (i - f) (by omega)
          rw [hbit] at this
          have e2 : f + (i - f) = i := by omega
          rw [e2, e, decide_eq_true (by omega)] at this
          simp at this
        rw [hskip] at hK
        have ea : IntKind.wrap .i64 ((f : Int) + ((tz v : Nat) : Int)) = ((f + tz v : Nat) : Int) := by rw [wrap64_in (by omega) (by omega)]; push_cast; rfl
        rw [ea]
        refine cond_dec (fun hl => ?_) (fun hl => ?_)
        · rw [nxt_here (by omega) z2.2] at hK
          exact hK
        · rw [nxt_end (by omega)] at hK
          exact hK
      · have hv0 : v = 0 := by omega
        subst hv0
        have hskip : nxt S want f (n - f) = nxt S want (64 * (f / 64) + 64) (n - (64 * (f / 64) + 64)) := nxt_skip (64 * (f / 64) + 64 - f) f (by omega) fun i i1 i2 e => by
          have := hbit (i - f)
          have e2 : f + (i - f) = i := by omega
          rw [e2, e, decide_eq_true (by omega)] at this
          simp at this
        rw [hskip] at hK
        have ea : IntKind.wrap .i64 ((IntKind.wrap .i64 (((f / 64 : Nat) : Int) * 64)) + 64) = ((64 * (f / 64) + 64 : Nat) : Int) := by
          rw [wrap64_in (x := ((f / 64 : Nat) : Int) * 64) (by omega) (by omega), wrap64_in (by omega) (by omega)]; omega
        rw [ea]
        exact ⟨by decide, ih (64 * (f / 64) + 64) (by omega) (by omega) hK⟩
    · rw [nxt_end (by omega)] at hK
      exact hK
def nextV (S : Nat → Bool) (n : Nat) (want : Bool) (i : Int) : Int := nxt S want i.toNat (n - i.toNat)
theorem set_Set_next_c {w : World} {b : Nat} {p : Option Addr} {n : Nat} {S : Nat → Bool} {F : Nat → Prop} {want : Bool} {i : Int} {K : Value → World → Prop} (h : SetV w b p n S F) (hT : Tab w) (hi : I64 i) (hK : K (.int .i64 (nextV S n want i)) w) : CallsE Pg set_Set_next.N #[.pointer p, .int .i64 i, .int .u64 ((turnW want : Nat) : Int)] w K := by
  refine set_Set_next.ok ?_
  have hsz := h.size
  have e : imax 0 i = ((i.toNat : Nat) : Int) := by unfold imax; split <;> omega
  unfold set_Set_next.F set_Set_next.p0
  rw [e]
  exact ⟨n + 1, next_loop h hT n i.toNat (by omega) (by unfold I64 at hi; omega) hK⟩
theorem set_Set_First_c {w : World} {b : Nat} {p : Option Addr} {n : Nat} {S : Nat → Bool} {F : Nat → Prop} {i : Int} {K : Value → World → Prop} (h : SetV w b p n S F) (hT : Tab w) (hi : I64 i) (hK : K (.int .i64 (nextV S n true i)) w) : CallsE Pg set_Set_First.N #[.pointer p, .int .i64 i] w K :=
  set_Set_First.ok (set_Set_next_c (want := true) h hT hi ⟨_, rfl, hK⟩)
/-! ### lists and bytes of sets -/
theorem mem_next {S : Nat → Bool} : ∀ (k f : Nat), (nxt S true f k = -1 ∧ memL S f k = []) ∨ ∃ j, f ≤ j ∧ j < f + k ∧ nxt S true f k = (j : Int) ∧ memL S f k = (j : Int) :: memL S (j + 1) (f + k - (j + 1))
  | 0, f => .inl ⟨rfl, rfl⟩
  | k + 1, f => by
    rw [nxt, memL]
    cases hs : S f with
    | true =>
      refine .inr ⟨f, Nat.le_refl _, by omega, rfl, ?_⟩
      have : f + (k + 1) - (f + 1) = k := by omega
      rw [this]; rfl
    | false =>
      have e : f + 1 + k = f + (k + 1) := by omega
      rcases mem_next (S := S) k (f + 1) with ⟨h1, h2⟩ | ⟨j, h1, h2, h3, h4⟩
      · exact .inl ⟨h1, h2⟩
      · rw [e] at h2 h4
        exact .inr ⟨j, by omega, h2, h3, h4⟩
theorem memL_le {S : Nat → Bool} {b n : Nat} : (memL S b n).length ≤ n := by rw [memL_len]; exact cnt_le S n b
theorem list_loop {w0 : World} {b : Nat} {p : Option Addr} {n : Nat} {S : Nat → Bool} {F : Nat → Prop} {K : Value → World → Prop} (h : SetV w0 b p n S F) (hT : Tab w0)
    (hK : ∀ A m c w', m = (memL S 0 n).length → w'.ownsRow w0.heap.size Ty.int 1 (.slice A m c) m (nums .i64 (memL S 0 n)) → Below w0.heap.size w0 w' → K (.slice A m c) w') :
    ∀ (d f : Nat) (w : World) (acc : List Int) (A : Option Addr) (c : Nat), n ≤ f + d → f ≤ n → Below w0.heap.size w0 w → w.ownsRow w0.heap.size Ty.int 1 (.slice A acc.length c) acc.length (nums .i64 acc) → acc ++ memL S f (n - f) = memL S 0 n →
      set_Set_List.l0 K (d + 1) p A acc.length c (nxt S true f (n - f)) w := by
  have hsz := h.size
  have hll := @memL_le S 0 n
  intro d
  induction d with
  | zero =>
    intro f w acc A c hf hf2 hb ho he
    rw [set_Set_List.l0_succ, nxt_end (by omega)]
    have e0 : n - f = 0 := by omega
    rw [e0] at he
    simp only [memL, List.append_nil] at he
    refine cond_dec (fun h => by omega) (fun _ => hK A _ c w (by rw [he]) ?_ hb)
    rw [← he]; exact ho
  | succ d ih =>
    intro f w acc A c hf hf2 hb ho he
    rw [set_Set_List.l0_succ]
    rcases mem_next (S := S) (n - f) f with ⟨h1, h2⟩ | ⟨j, h1, h2, h3, h4⟩
    · rw [h1]
      rw [h2, List.append_nil] at he
      refine cond_dec (fun h => by omega) (fun _ => hK A _ c w (by rw [he]) ?_ hb)
      rw [← he]; exact ho
    · rw [h3]
      have ej : f + (n - f) - (j + 1) = n - (j + 1) := by omega
      rw [h4, ej] at he
      refine cond_dec (fun _ => wlet_intro fun w1 hw1 => ?_) (fun h => by omega)
      have hal : Below w.heap.size w w1 := by rw [hw1]; exact (Below.refl _ _).alloc (Nat.le_refl _) _
      have hz : Blk w1 w.heap.size Ty.int (nums .i64 [(j : Int)]) := by rw [hw1]; exact Blk.new w Ty.int _
      clear hw1
      have b1 := hb.trans (hal.mono hb.size)
      have ho1 := own_below_kp ho hal
      have hla : acc.length ≤ 65536 := by have := congrArg List.length he; rw [List.length_append] at this; omega
      refine app_i64 (m := 1) ho1 rfl (Cs.of_blk0 hz) (by omega) b1.size fun A' c' w2 ho2 hm2 => ⟨_, _, _, rfl, ?_⟩
      have b2 := b1.trans (hm2.kp.below b1.size fun i hi e => by have := (own_lt ho1 e).1; omega)
      rw [wrap64_in (x := (j : Int) + 1) (by omega) (by omega)]
      refine set_Set_First_c (h.below b2) (hT.below b2 hT.lt) ⟨by omega, by omega⟩ ⟨_, rfl, ?_⟩
      have en : nextV S n true ((j : Int) + 1) = nxt S true (j + 1) (n - (j + 1)) := by
        unfold nextV
        have : ((j : Int) + 1).toNat = j + 1 := by omega
        rw [this]
      rw [en]
      have el : acc.length + 1 = (acc ++ [(j : Int)]).length := by simp
      rw [el] at ho2 ⊢
      exact ih (j + 1) w2 _ A' c' (by omega) (by omega) b2 ho2 (by rw [List.append_assoc]; exact he)
theorem set_Set_List_c {w : World} {b : Nat} {p : Option Addr} {n : Nat} {S : Nat → Bool} {F : Nat → Prop} {K : Value → World → Prop} (h : SetV w b p n S F) (hT : Tab w)
    (hK : ∀ A m c w', m = (memL S 0 n).length → w'.ownsRow w.heap.size Ty.int 1 (.slice A m c) m (nums .i64 (memL S 0 n)) → Below w.heap.size w w' → K (.slice A m c) w') : CallsE Pg set_Set_List.N #[.pointer p] w K :=
  set_Set_List.ok (set_Set_First_c h hT ⟨by decide, by decide⟩ ⟨_, rfl, n + 1, list_loop h hT hK n 0 w [] none 0 (by omega) (by omega) (Below.refl _ _) (World.ownsRow_nil _ _ _ _) rfl⟩)
def bytL (S : Nat → Bool) (n : Nat) : List Int := (List.range ((n + 7) / 8)).map fun k => (valF S (8 * k) 8 : Int)
def bytP (S : Nat → Bool) (N k : Nat) : List Int := (List.range N).map fun i => if i < k then (valF S (8 * i) 8 : Int) else 0
theorem bytP_at {S : Nat → Bool} {N k i : Nat} (h : i < N) : (bytP S N k)[i]? = some (if i < k then (valF S (8 * i) 8 : Int) else 0) := by simp [bytP, h]
theorem bytP_len {S : Nat → Bool} {N k : Nat} : (bytP S N k).length = N := by simp [bytP]
theorem bytL_len {S : Nat → Bool} {n : Nat} : (bytL S n).length = (n + 7) / 8 := by simp [bytL]
theorem bytP_0 {S : Nat → Bool} {N : Nat} : bytP S N 0 = List.replicate N 0 := by
  apply List.ext_getElem?
  intro i
  by_cases h : i < N
  · rw [bytP_at h, List.getElem?_replicate, if_pos h, if_neg (by omega)]
  · rw [List.getElem?_eq_none (by rw [bytP_len]; omega), List.getElem?_eq_none (by simp; omega)]
theorem bytP_N {S : Nat → Bool} {n : Nat} : bytP S ((n + 7) / 8) ((n + 7) / 8) = bytL S n := by
  apply List.ext_getElem?
  intro i
  by_cases h : i < (n + 7) / 8
  · rw [bytP_at h, if_pos h]; simp [bytL, h]
  · rw [List.getElem?_eq_none (by rw [bytP_len]; omega), List.getElem?_eq_none (by rw [bytL_len]; omega)]
theorem bytP_set {S : Nat → Bool} {N k : Nat} (h : k < N) : (bytP S N k).set k (valF S (8 * k) 8 : Int) = bytP S N (k + 1) := by
  apply List.ext_getElem?
  intro i
  rw [List.getElem?_set]
  by_cases hi : k = i
  · subst hi
    rw [if_pos rfl, bytP_len, if_pos h, bytP_at h, if_pos (by omega)]
  · rw [if_neg hi]
    by_cases hN : i < N
    · rw [bytP_at hN, bytP_at hN]
      by_cases h2 : i < k
      · rw [if_pos h2, if_pos (by omega)]
      · rw [if_neg h2, if_neg (by omega)]
    · rw [List.getElem?_eq_none (by rw [bytP_len]; omega), List.getElem?_eq_none (by rw [bytP_len]; omega)]
theorem valF_byte (S : Nat → Bool) (b : Nat) : valF S b 8 < 256 := valF_lt S 8 b
theorem bytL_bytes {S : Nat → Bool} {n : Nat} : Bytes (bytL S n) := fun x hx => by
  simp only [bytL, List.mem_map] at hx
  obtain ⟨k, _, rfl⟩ := hx
  have := valF_byte S (8 * k)
  exact ⟨by omega, by omega⟩
theorem bytes_loop {w0 : World} {b : Nat} {p : Option Addr} {n g : Nat} {S : Nat → Bool} {F : Nat → Prop} {K : Value → World → Prop} (h : SetV w0 b p n S F) (hg : w0.heap.size ≤ g)
    (hK : ∀ w', w'.ownsRow w0.heap.size Ty.uint8 1 (.slice (some ⟨g, 0, none⟩) ((n + 7) / 8) ((n + 7) / 8)) ((n + 7) / 8) (nums .u8 (bytL S n)) → Below w0.heap.size w0 w' → K (.slice (some ⟨g, 0, none⟩) ((n + 7) / 8) ((n + 7) / 8)) w') :
    ∀ (d k : Nat) (w : World), k + d = (n + 7) / 8 → Below w0.heap.size w0 w → Blk w g Ty.uint8 (nums .u8 (bytP S ((n + 7) / 8) k)) → set_Set_Bytes.l0 K (d + 1) p (some ⟨g, 0, none⟩) ((n + 7) / 8) ((n + 7) / 8) ((n + 7) / 8 : Nat) k w := by
  have hsz := h.size
  intro d
  induction d with
  | zero =>
    intro k w hk hb hB
    rw [set_Set_Bytes.l0_succ]
    refine cond_dec (fun h => by omega) (fun _ => ?_)
    obtain rfl : k = (n + 7) / 8 := by omega
    rw [bytP_N] at hB
    refine hK w ?_ hb
    have := own_of_blk (size := 1) (n := (n + 7) / 8) hB hg (c := (n + 7) / 8) (by rw [nums_len, bytL_len]; omega) (Nat.le_refl _) (by unfold maxLen; omega)
    rw [List.take_of_length_le (by rw [nums_len, bytL_len]; omega)] at this
    exact this
  | succ d ih =>
    intro k w hk hb hB
    rw [set_Set_Bytes.l0_succ]
    refine cond_dec (fun _ => ?_) (fun h => absurd h (by omega))
    have h' := h.below hb
    obtain ⟨t, g', rfl, h1, h2, h3, h4, h5, h6, hF⟩ := h'
    have ed := tdivN k 8 (by omega)
    have em := tmodN k 8
    rw [show ((8 : Nat) : Int) = 8 from rfl] at ed em
    have e8 : IntKind.wrap .i64 (8 * ((k % 8 : Nat) : Int)) = ((8 * (k % 8) : Nat) : Int) := by rw [wrap64_in (by omega) (by omega)]; push_cast; rfl
    rw [ed, em, e8, Int.toNat_natCast]
    obtain ⟨a, ea, hc⟩ := (Cs.of_blk0 h5).at (nums_at (ws_at (S := S) (show k / 8 < (n + 63) / 64 by omega)))
    refine ⟨_, rfl, _, _, _, h4.cell' (j := 1) rfl, by decide, ⟨by omega, by omega⟩, a, ea, _, hc, by decide, by omega, ⟨by omega, by omega⟩, _, rfl, ?_⟩
    have ev : IntKind.wrap .u8 (ishr .u64 ((wd S (k / 8) : Nat) : Int) ((8 * (k % 8) : Nat) : Int)) = ((valF S (8 * k) 8 : Nat) : Int) := by
      rw [shrN _ _ (by omega), wrapu8_eq]
      unfold wd
      rw [valF_div S _ _ _ (by omega)]
      have e1 : 64 * (k / 8) + 8 * (k % 8) = 8 * k := by omega
      rw [e1]
      have := valF_mod S (8 * k) (64 - 8 * (k % 8)) 8 (by omega)
      have e2 : (2 : Nat) ^ 8 = 256 := by decide
      rw [e2] at this
      omega
    rw [ev]
    refine blk_set1 (k := k) hB (by rw [nums_len, bytP_len]; omega) fun w' hB' hk' _ => ?_
    rw [nums_set, bytP_set (by omega)] at hB'
    rw [cst k (by omega)]
    exact ih (k + 1) w' (by omega) (hb.trans (hk'.below hb.size fun i hi e => by omega)) hB'
theorem set_Set_Bytes_c {w : World} {b : Nat} {p : Option Addr} {n : Nat} {S : Nat → Bool} {F : Nat → Prop} {K : Value → World → Prop} (h : SetV w b p n S F)
    (hK : ∀ A c w', w'.ownsRow w.heap.size Ty.uint8 1 (.slice A ((n + 7) / 8) c) ((n + 7) / 8) (nums .u8 (bytL S n)) → Below w.heap.size w w' → K (.slice A ((n + 7) / 8) c) w') : CallsE Pg set_Set_Bytes.N #[.pointer p] w K := by
  have hsz := h.size
  refine set_Set_Bytes.ok (set_Set_Len_c h ⟨_, rfl, ?_⟩)
  have e1 : IntKind.wrap .i64 (Int.tdiv (IntKind.wrap .i64 ((n : Int) + 7)) 8) = (((n + 7) / 8 : Nat) : Int) := by
    rw [wrap64_in (x := (n : Int) + 7) (by omega) (by omega), Int.tdiv_eq_ediv_of_nonneg (by omega), wrap64_in (by omega) (by omega)]; omega
  rw [e1, Int.toNat_natCast]
  refine ⟨by decide, ⟨by omega, by omega, by omega, by omega⟩, ?_⟩
  rw [madeN]
  refine wlet_intro fun w1 h1 => ?_
  have hal : Below w.heap.size w w1 := by rw [h1]; exact (Below.refl _ _).alloc (Nat.le_refl _) _
  have hg : Blk w1 w.heap.size Ty.uint8 (nums .u8 (List.replicate ((n + 7) / 8) 0)) := by rw [h1]; exact Blk.new w _ _
  clear h1
  rw [← bytP_0 (S := S)] at hg
  exact ⟨(n + 7) / 8 + 1, bytes_loop h (Nat.le_refl _) (fun w' ho hb => hK _ _ w' ho hb) _ 0 w1 (by omega) hal hg⟩
theorem words_under : Pg.underlying Ty.sl_uint64 = some (.slice Ty.uint64) := by kernel_rfl
/-! no place is in -/
theorem ins_none (n : Nat) : ins noneS n = List.replicate n false := by
  apply List.ext_getElem?
  intro k
  by_cases h : k < n
  · rw [ins_at h, List.getElem?_replicate, if_pos h]; rfl
  · rw [List.getElem?_eq_none (by rw [ins_len]; omega), List.getElem?_eq_none (by simp; omega)]
/-! ### sets: the document's -/
def RefV (w : World) (b : Nat) (p : Option Addr) (n : Nat) (S : Nat → Bool) (F : Nat → Prop) : Prop :=
  ∃ t g, p = some ⟨t, 0, none⟩ ∧ b ≤ t ∧ b ≤ g ∧ g ≠ t ∧ Blk w t Ty.ref03_Set [.slice (some ⟨g, 0, none⟩) n n] ∧ Blk w g Ty.bool (bools (ins S n)) ∧ n ≤ 65536 ∧ F = fun i => i = t ∨ i = g
theorem RefV.kp {w w' : World} {b : Nat} {p : Option Addr} {n : Nat} {S : Nat → Bool} {F G : Nat → Prop} (h : RefV w b p n S F) (k : Kp G w w') (hd : ∀ i, F i → ¬ G i) : RefV w' b p n S F := by
  obtain ⟨t, g, rfl, h1, h2, h3, h4, h5, h6, rfl⟩ := h
  exact ⟨t, g, rfl, h1, h2, h3, h4.kp k (hd t (.inl rfl)), h5.kp k (hd g (.inr rfl)), h6, rfl⟩
theorem RefV.lt {w : World} {b : Nat} {p : Option Addr} {n : Nat} {S : Nat → Bool} {F : Nat → Prop} (h : RefV w b p n S F) {i : Nat} (hi : F i) : b ≤ i ∧ i < w.heap.size := by
  obtain ⟨t, g, rfl, h1, h2, h3, h4, h5, h6, rfl⟩ := h
  rcases hi with rfl | rfl
  · exact ⟨h1, h4.lt⟩
  · exact ⟨h2, h5.lt⟩
theorem RefV.below {w w' : World} {b : Nat} {p : Option Addr} {n : Nat} {S : Nat → Bool} {F : Nat → Prop} (h : RefV w b p n S F) (k : Below w.heap.size w w') : RefV w' b p n S F := h.kp (Kp.of_below k) (fun _ _ => id)
theorem RefV.size {w : World} {b : Nat} {p : Option Addr} {n : Nat} {S : Nat → Bool} {F : Nat → Prop} (h : RefV w b p n S F) : n ≤ 65536 := by
  obtain ⟨t, g, rfl, h1, h2, h3, h4, h5, h6, rfl⟩ := h
  exact h6
theorem RefV.base {w : World} {b b' : Nat} {p : Option Addr} {n : Nat} {S : Nat → Bool} {F : Nat → Prop} (h : RefV w b p n S F) (hb : b' ≤ b) : RefV w b' p n S F := by
  obtain ⟨t, g, rfl, h1, h2, h3, h4, h5, h6, rfl⟩ := h
  exact ⟨t, g, rfl, by omega, by omega, h3, h4, h5, h6, rfl⟩
theorem RefV.under {w w' : World} {b b0 : Nat} {p : Option Addr} {n : Nat} {S : Nat → Bool} {F : Nat → Prop} (h : RefV w b p n S F) (hb : b0 ≤ b) (hw : b0 ≤ w.heap.size) (k : Kp F w w') : Below b0 w w' :=
  k.below hw fun i hi hs => by have := (h.lt hs).1; omega
theorem ref03_New_c {n : Int} {K : Value → World → Prop} {w : World} (hK : ∀ w' p F, RefV w' w.heap.size p (clampN n) noneS F → Below w.heap.size w w' → K (.pointer p) w') : CallsE Pg ref03_New.N #[.int .i64 n] w K := by
  refine ref03_New.ok ?_
  obtain ⟨e0, hm⟩ := clampN_eq n
  generalize clampN n = m at hK e0 hm
  unfold ref03_New.F
  rw [e0, Int.toNat_natCast]
  refine ⟨⟨by omega, by omega, by omega, by omega⟩, ?_⟩
  rw [made_bools]
  refine wlet_intro fun w1 h1 => wlet_intro fun w2 h2 => ?_
  have hal : Below w.heap.size w w1 := by rw [h1]; exact (Below.refl _ _).alloc (Nat.le_refl _) _
  have hg : Blk w1 w.heap.size Ty.bool (bools (List.replicate m false)) := by rw [h1]; exact Blk.new w _ _
  clear h1
  have hal2 : Below w1.heap.size w1 w2 := by rw [h2]; exact (Below.refl _ _).alloc (Nat.le_refl _) _
  have hB : Blk w2 w1.heap.size Ty.ref03_Set [.slice (some ⟨w.heap.size, 0, none⟩) m m] := by rw [h2]; exact Blk.new w1 _ _
  clear h2
  have hg2 := hg.kp (Kp.of_below hal2) id
  have hlt := hg.lt
  rw [← ins_none] at hg2
  exact hK w2 _ _ ⟨w1.heap.size, w.heap.size, rfl, hal.size, Nat.le_refl _, by omega, hB, hg2, hm, rfl⟩ (hal.trans (hal2.mono hal.size))
theorem ref03_Set_Put_c {w : World} {b : Nat} {p : Option Addr} {n : Nat} {S : Nat → Bool} {F : Nat → Prop} {i : Int} {v : Bool} {K : Value → World → Prop} (h : RefV w b p n S F)
    (hK : ∀ w', RefV w' b p n (putS S n i v) F → Kp F w w' → K (.bool (canPut S n i v)) w') : CallsE Pg ref03_Set_Put.N #[.pointer p, .int .i64 i, .bool v] w K := by
  have no : canPut S n i v = false → K (.bool false) w := fun e => by
    have := hK w (by unfold putS; rw [e]; exact h) (Kp.refl _ _)
    rw [e] at this; exact this
  obtain ⟨t, g, rfl, h1, h2, h3, h4, h5, h6, rfl⟩ := h
  refine ref03_Set_Put.ok ?_
  refine cond_dec (fun hlt => ?_) (fun hge => ?_)
  · exact no (by unfold canPut; rw [decide_eq_false (by omega)]; rfl)
  refine ⟨_, rfl, _, _, _, h4.cell' (j := 0) rfl, cond_dec (fun hlt => ?_) (fun hlt => ?_)⟩
  · exact no (by unfold canPut; rw [decide_eq_false (by omega : ¬ i < n)]; simp)
  obtain ⟨k, rfl⟩ := Int.eq_ofNat_of_zero_le (show 0 ≤ i by omega)
  obtain ⟨a, ea, hc⟩ := (Cs.of_blk0 h5).at (bools_at (ins_at (S := S) (show k < n by omega)))
  cases ea
  rw [Int.toNat_natCast]
  refine ⟨_, rfl, _, _, _, h4.cell' (j := 0) rfl, ⟨by omega, by omega⟩, _, rfl, _, hc, ?_⟩
  by_cases hs : S k = v
  · rw [hs, beq_self_eq_true]
    exact no (by unfold canPut; rw [Int.toNat_natCast, hs]; simp)
  · have e1 : (S k == v) = false := by simpa using hs
    have e2 : canPut S n (k : Int) v = true := by
      unfold canPut
      rw [Int.toNat_natCast, decide_eq_true (by omega), decide_eq_true (by omega)]
      simpa using hs
    have e3 : putS S n (k : Int) v = upd S k v := by unfold putS; rw [if_pos e2, Int.toNat_natCast]
    rw [e2, e3] at hK
    rw [e1]
    unfold ref03_Set_Put.p1 ref03_Set_Put.p2
    rw [Int.toNat_natCast]
    refine ⟨_, rfl, _, _, _, h4.cell' (j := 0) rfl, ⟨by omega, by omega⟩, _, rfl, ?_⟩
    refine blk_set1 h5 (by rw [bools_len, ins_len]; omega) fun w' hB' hk' _ => ?_
    rw [bools_set, ins_set (by omega)] at hB'
    exact hK w' ⟨t, g, rfl, h1, h2, h3, h4.kp hk' (fun e => h3 e.symm), hB', h6, rfl⟩ (hk'.mono (fun i _ e => .inr e))
theorem rlist_loop {w0 : World} {b : Nat} {p : Option Addr} {n : Nat} {S : Nat → Bool} {F : Nat → Prop} {K : Value → World → Prop} (h : RefV w0 b p n S F)
    (hK : ∀ A m c w', m = (memL S 0 n).length → w'.ownsRow w0.heap.size Ty.int 1 (.slice A m c) m (nums .i64 (memL S 0 n)) → Below w0.heap.size w0 w' → K (.slice A m c) w') :
    ∀ (d f : Nat) (w : World) (acc : List Int) (A : Option Addr) (c : Nat), f + d = n → Below w0.heap.size w0 w → w.ownsRow w0.heap.size Ty.int 1 (.slice A acc.length c) acc.length (nums .i64 acc) → acc ++ memL S f d = memL S 0 n →
      ref03_Set_List.l0 K (d + 1) p A acc.length c n f w := by
  have hsz := h.size
  have hll := @memL_le S 0 n
  intro d
  induction d with
  | zero =>
    intro f w acc A c hf hb ho he
    rw [ref03_Set_List.l0_succ]
    simp only [memL, List.append_nil] at he
    show condP (decide ((f : Int) < _)) _ _
    refine cond_dec (fun h => by omega) (fun _ => hK A _ c w (by rw [he]) ?_ hb)
    rw [← he]; exact ho
  | succ d ih =>
    intro f w acc A c hf hb ho he
    rw [ref03_Set_List.l0_succ]
    show condP (decide ((f : Int) < _)) _ _
    refine cond_dec (fun _ => ?_) (fun h => absurd h (by omega))
    have h' := h.below hb
    obtain ⟨t, g, rfl, h1, h2, h3, h4, h5, h6, hF⟩ := h'
    obtain ⟨a, ea, hc⟩ := (Cs.of_blk0 h5).at (bools_at (ins_at (S := S) (show f < n by omega)))
    cases ea
    unfold ref03_Set_List.p4
    rw [Int.toNat_natCast]
    refine ⟨_, rfl, _, _, _, h4.cell' (j := 0) rfl, ⟨by omega, by omega⟩, _, rfl, _, hc, ?_⟩
    rw [memL] at he
    cases hs : S f with
    | false =>
      rw [hs] at he
      show ref03_Set_List.l0 K (d + 1) _ A acc.length c n (IntKind.wrap .i64 ((f : Int) + 1)) w
      rw [cst f (by omega)]
      exact ih (f + 1) w acc A c (by omega) hb ho he
    | true =>
      rw [hs] at he
      refine condP_t (wlet_intro fun w1 hw1 => ?_)
      have hal : Below w.heap.size w w1 := by rw [hw1]; exact (Below.refl _ _).alloc (Nat.le_refl _) _
      have hz : Blk w1 w.heap.size Ty.int (nums .i64 [(f : Int)]) := by rw [hw1]; exact Blk.new w Ty.int _
      clear hw1
      have b1 := hb.trans (hal.mono hb.size)
      have ho1 := own_below_kp ho hal
      have hla : acc.length ≤ 65536 := by have := congrArg List.length he; rw [List.length_append] at this; omega
      refine app_i64 (m := 1) ho1 rfl (Cs.of_blk0 hz) (by omega) b1.size fun A' c' w2 ho2 hm2 => ⟨_, _, _, rfl, ?_⟩
      have b2 := b1.trans (hm2.kp.below b1.size fun i hi e => by have := (own_lt ho1 e).1; omega)
      show ref03_Set_List.l0 K (d + 1) _ A' _ c' n (IntKind.wrap .i64 ((f : Int) + 1)) w2
      rw [cst f (by omega)]
      have el : acc.length + 1 = (acc ++ [(f : Int)]).length := by simp
      rw [el] at ho2 ⊢
      exact ih (f + 1) w2 _ A' c' (by omega) b2 ho2 (by rw [List.append_assoc]; exact he)
theorem ref03_Set_List_c {w : World} {b : Nat} {p : Option Addr} {n : Nat} {S : Nat → Bool} {F : Nat → Prop} {K : Value → World → Prop} (h : RefV w b p n S F)
    (hK : ∀ A m c w', m = (memL S 0 n).length → w'.ownsRow w.heap.size Ty.int 1 (.slice A m c) m (nums .i64 (memL S 0 n)) → Below w.heap.size w w' → K (.slice A m c) w') : CallsE Pg ref03_Set_List.N #[.pointer p] w K := by
  have h0 := h
  obtain ⟨t, g, rfl, h1, h2, h3, h4, h5, h6, rfl⟩ := h
  exact ref03_Set_List.ok ⟨_, rfl, _, _, _, h4.cell' (j := 0) rfl, n + 1, rlist_loop h0 hK n 0 w [] none 0 (by omega) (Below.refl _ _) (World.ownsRow_nil _ _ _ _) rfl⟩
theorem valF_snoc (S : Nat → Bool) (b j : Nat) : valF S b (j + 1) = valF S b j + (S (b + j)).toNat * 2 ^ j := by
  have h1 := valF_mod S b (j + 1) j (by omega)
  have h2 := valF_div S b (j + 1) j (by omega)
  have e : j + 1 - j = 1 := by omega
  have e2 : valF S (b + j) 1 = (S (b + j)).toNat := by simp [valF]
  rw [e, e2] at h2
  have := Nat.div_add_mod (valF S b (j + 1)) (2 ^ j)
  rw [h1, h2, Nat.mul_comm] at this
  omega
theorem valF_cut {S : Nat → Bool} {n b j : Nat} (hS : Within S n) (h : n ≤ b + j) : ∀ m, valF S b (j + m) = valF S b j
  | 0 => rfl
  | m + 1 => by
    have e : j + (m + 1) = j + m + 1 := by omega
    rw [e, valF_snoc, valF_cut hS h m, hS (b + (j + m)) (by omega)]; simp
theorem rbyte_loop {w : World} {b : Nat} {p : Option Addr} {n : Nat} {S : Nat → Bool} {F : Nat → Prop} {A : Option Addr} {m c i : Nat} {L0 : Option Addr → Option Addr → Nat → Nat → Int → World → Prop} {K : Value → World → Prop} (h : RefV w b p n S F) (hS : Within S n) (hi : i ≤ 65536)
    (hK : ref03_Set_Bytes.p10 L0 K p A m c i ((valF S i 8 : Nat) : Int) w) : ∀ (d j : Nat), j + d = 8 → ref03_Set_Bytes.l1 L0 K (d + 1) p A m c i ((valF S i j : Nat) : Int) ((2 ^ j : Nat) : Int) ((i + j : Nat) : Int) w := by
  have h0 := h
  have hsz := h.size
  obtain ⟨t, g, rfl, h1, h2, h3, h4, h5, h6, rfl⟩ := h
  have e8 : IntKind.wrap .i64 ((i : Int) + 8) = ((i + 8 : Nat) : Int) := by rw [wrap64_in (by omega) (by omega)]; push_cast; rfl
  intro d
  induction d with
  | zero =>
    intro j hj
    rw [ref03_Set_Bytes.l1_succ]
    unfold ref03_Set_Bytes.b1
    rw [e8]
    obtain rfl : j = 8 := by omega
    exact cond_dec (fun h => absurd h (by omega)) (fun _ => hK)
  | succ d ih =>
    intro j hj
    rw [ref03_Set_Bytes.l1_succ]
    unfold ref03_Set_Bytes.b1
    rw [e8]
    refine cond_dec (fun _ => ?_) (fun h => absurd h (by omega))
    refine ⟨_, rfl, _, _, _, h4.cell' (j := 0) rfl, ?_⟩
    show condP (decide (((i + j : Nat) : Int) < _)) _ _
    refine cond_dec (fun hlt => ?_) (fun hge => ?_)
    · obtain ⟨a, ea, hc⟩ := (Cs.of_blk0 h5).at (bools_at (ins_at (S := S) (show i + j < n by omega)))
      cases ea
      unfold ref03_Set_Bytes.p7
      rw [Int.toNat_natCast]
      refine ⟨_, rfl, _, _, _, h4.cell' (j := 0) rfl, ⟨by omega, by omega⟩, _, rfl, _, hc, ?_⟩
      have hv := valF_lt S j i
      have hp : 2 ^ j ≤ 128 := by have : 2 ^ j ≤ 2 ^ 7 := Nat.pow_le_pow_right (by decide) (by omega); omega
      have hsn := valF_snoc S i j
      have hp2 : IntKind.wrap .i64 (((2 ^ j : Nat) : Int) * 2) = ((2 ^ (j + 1) : Nat) : Int) := by
        rw [Nat.pow_succ]
        generalize 2 ^ j = q at hp
        rw [wrap64_in (by omega) (by omega)]; push_cast; rfl
      have next : ∀ x : Int, x = ((valF S i (j + 1) : Nat) : Int) → ref03_Set_Bytes.p8 (ref03_Set_Bytes.l1 L0 K (d + 1)) L0 K (some ⟨t, 0, none⟩) A m c i x ((2 ^ j : Nat) : Int) ((i + j : Nat) : Int) w := fun x hx => by
        subst hx
        show ref03_Set_Bytes.l1 L0 K (d + 1) _ A m c i _ (IntKind.wrap .i64 (((2 ^ j : Nat) : Int) * 2)) (IntKind.wrap .i64 (((i + j : Nat) : Int) + 1)) w
        rw [hp2, cst _ (by omega)]
        exact ih (j + 1) (by omega)
      cases hs : S (i + j) with
      | false =>
        rw [hs] at hsn
        exact next _ (by rw [hsn]; simp)
      | true =>
        rw [hs] at hsn
        refine next _ ?_
        rw [hsn]
        generalize 2 ^ j = q at hp hv
        rw [wrap64_in (by omega) (by omega)]
        simp
    · have e : valF S i 8 = valF S i j := by
        have := valF_cut (S := S) (n := n) (b := i) (j := j) hS (by omega) (8 - j)
        have e2 : j + (8 - j) = 8 := by omega
        rw [e2] at this
        exact this
      rw [e] at hK
      exact hK
theorem rbytes_loop {w0 : World} {b : Nat} {p : Option Addr} {n : Nat} {S : Nat → Bool} {F : Nat → Prop} {K : Value → World → Prop} (h : RefV w0 b p n S F) (hS : Within S n)
    (hK : ∀ A c w', w'.ownsRow w0.heap.size Ty.uint8 1 (.slice A ((n + 7) / 8) c) ((n + 7) / 8) (nums .u8 (bytL S n)) → Below w0.heap.size w0 w' → K (.slice A ((n + 7) / 8) c) w') :
    ∀ (d k : Nat) (w : World) (A : Option Addr) (c : Nat), k + d = (n + 7) / 8 → Below w0.heap.size w0 w → w.ownsRow w0.heap.size Ty.uint8 1 (.slice A k c) k (nums .u8 ((bytL S n).take k)) → ref03_Set_Bytes.l0 K (d + 1) p A k c ((8 * k : Nat) : Int) w := by
  have hsz := h.size
  intro d
  induction d with
  | zero =>
    intro k w A c hk hb ho
    rw [ref03_Set_Bytes.l0_succ]
    have h' := h.below hb
    obtain ⟨t, g, rfl, h1, h2, h3, h4, h5, h6, hF⟩ := h'
    refine ⟨_, rfl, _, _, _, h4.cell' (j := 0) rfl, cond_dec (fun h => by omega) (fun _ => ?_)⟩
    obtain rfl : k = (n + 7) / 8 := by omega
    rw [List.take_of_length_le (by rw [bytL_len]; exact Nat.le_refl _)] at ho
    exact hK A c w ho hb
  | succ d ih =>
    intro k w A c hk hb ho
    rw [ref03_Set_Bytes.l0_succ]
    have h' := h.below hb
    have h'' := h'
    obtain ⟨t, g, rfl, h1, h2, h3, h4, h5, h6, hF⟩ := h'
    refine ⟨_, rfl, _, _, _, h4.cell' (j := 0) rfl, cond_dec (fun _ => ?_) (fun h => absurd h (by omega))⟩
    refine ⟨9, ?_⟩
    refine rbyte_loop (i := 8 * k) h'' hS (by omega) ?_ 8 0 rfl
    have hv := valF_byte S (8 * k)
    have ew : IntKind.wrap .u8 ((valF S (8 * k) 8 : Nat) : Int) = ((valF S (8 * k) 8 : Nat) : Int) := by rw [wrapu8_eq]; omega
    unfold ref03_Set_Bytes.p10
    rw [ew]
    refine wlet_intro fun w1 hw1 => ?_
    have hal : Below w.heap.size w w1 := by rw [hw1]; exact (Below.refl _ _).alloc (Nat.le_refl _) _
    have hz : Blk w1 w.heap.size Ty.uint8 (nums .u8 [((valF S (8 * k) 8 : Nat) : Int)]) := by rw [hw1]; exact Blk.new w Ty.uint8 _
    clear hw1
    have b1 := hb.trans (hal.mono hb.size)
    have ho1 := own_below_kp ho hal
    refine app_bytes (m := 1) ho1 rfl (Cs.of_blk0 hz) (by omega) b1.size fun A' c' w2 ho2 hm2 => ⟨_, _, _, rfl, ?_⟩
    have b2 := b1.trans (hm2.kp.below b1.size fun i hi e => by have := (own_lt ho1 e).1; omega)
    have et : (bytL S n).take k ++ [((valF S (8 * k) 8 : Nat) : Int)] = (bytL S n).take (k + 1) := by
      rw [take_snoc]
      have : k < (n + 7) / 8 := by omega
      simp [bytL, this]
    rw [et] at ho2
    have e8 : IntKind.wrap .i64 (((8 * k : Nat) : Int) + 8) = ((8 * (k + 1) : Nat) : Int) := by rw [wrap64_in (by omega) (by omega)]; push_cast; omega
    show ref03_Set_Bytes.l0 K (d + 1) _ A' (k + 1) c' (IntKind.wrap .i64 (((8 * k : Nat) : Int) + 8)) w2
    rw [e8]
    exact ih (k + 1) w2 A' c' (by omega) b2 ho2
theorem ref03_Set_Bytes_c {w : World} {b : Nat} {p : Option Addr} {n : Nat} {S : Nat → Bool} {F : Nat → Prop} {K : Value → World → Prop} (h : RefV w b p n S F) (hS : Within S n)
    (hK : ∀ A c w', w'.ownsRow w.heap.size Ty.uint8 1 (.slice A ((n + 7) / 8) c) ((n + 7) / 8) (nums .u8 (bytL S n)) → Below w.heap.size w w' → K (.slice A ((n + 7) / 8) c) w') : CallsE Pg ref03_Set_Bytes.N #[.pointer p] w K :=
  ref03_Set_Bytes.ok ⟨(n + 7) / 8 + 1, rbytes_loop h hS hK _ 0 w none 0 (by omega) (Below.refl _ _) (by rw [List.take_zero]; exact World.ownsRow_nil _ _ _ _)⟩
/-! ### sets out of bytes -/
def bitsOf (bs : List Int) : Nat → Bool := fun i => (bs.getD (i / 8) 0).toNat.testBit (i % 8)
def readB (bs : List Int) (m : Nat) : Nat → Bool := fun i => decide (i < m) && bitsOf bs i
theorem bitsOf_at {bs : List Int} {k j : Nat} {x : Int} (h : bs[k]? = some x) (hj : j < 8) : bitsOf bs (8 * k + j) = x.toNat.testBit j := by
  unfold bitsOf
  have e1 : (8 * k + j) / 8 = k := by omega
  have e2 : (8 * k + j) % 8 = j := by omega
  rw [e1, e2, List.getD_eq_getElem?_getD, h]; rfl
theorem bitsOf_end {bs : List Int} {i : Nat} (h : 8 * bs.length ≤ i) : bitsOf bs i = false := by
  unfold bitsOf
  rw [List.getD_eq_getElem?_getD, List.getElem?_eq_none (by omega)]
  exact Nat.zero_testBit _
theorem readB_end (bs : List Int) : readB bs (8 * bs.length) = bitsOf bs := funext fun i => by
  unfold readB
  by_cases h : i < 8 * bs.length
  · rw [decide_eq_true h]; rfl
  · rw [decide_eq_false h, bitsOf_end (by omega)]; rfl
theorem readB_0 (bs : List Int) : readB bs 0 = noneS := funext fun i => by unfold readB noneS; simp
def badB (bs : List Int) (n : Nat) : Bool := (List.range (8 * bs.length)).any fun i => decide (n ≤ i) && bitsOf bs i
theorem bad_of {bs : List Int} {n i : Nat} (h : n ≤ i) (hb : bitsOf bs i = true) : badB bs n = true := by
  have hi : i < 8 * bs.length := by
    by_cases h : i < 8 * bs.length
    · exact h
    · rw [bitsOf_end (by omega)] at hb; cases hb
  unfold badB
  rw [List.any_eq_true]
  exact ⟨i, by simpa using hi, by rw [decide_eq_true h, hb]; rfl⟩
theorem bad_no {bs : List Int} {n : Nat} (h : ∀ i, n ≤ i → bitsOf bs i = false) : badB bs n = false := by
  cases hb : badB bs n with
  | false => rfl
  | true =>
    unfold badB at hb
    rw [List.any_eq_true] at hb
    obtain ⟨i, _, h2⟩ := hb
    simp only [Bool.and_eq_true, decide_eq_true_eq] at h2
    rw [h i h2.1] at h2
    exact absurd h2.2 (by simp)
def rdErr (bs : List Int) (n : Int) : Int := if n < 0 ∨ 65536 < n then 2 else if (bs.length : Int) < (n + 7) / 8 then 3 else if (n + 7) / 8 < bs.length then 6 else if badB bs n.toNat = true then 4 else 0
theorem shlN {x s : Nat} (hs : s < 64) (h : x * 2 ^ s < 18446744073709551616) : ishl .u64 (x : Int) (s : Int) = ((x * 2 ^ s : Nat) : Int) := by
  unfold ishl
  have h1 : min (s : Int).toNat (IntKind.u64).bits = s := by
    have : (IntKind.u64).bits = 64 := rfl
    rw [this, Int.toNat_natCast]; omega
  have e : (x : Int) * 2 ^ s = ((x * 2 ^ s : Nat) : Int) := by push_cast; rfl
  rw [h1, e]
  generalize x * 2 ^ s = q at h
  exact wrapu64_in (by omega) (by omega)
theorem wd_read {bs : List Int} {k : Nat} {x : Nat} (h : bs[k]? = some (x : Int)) (hx : x < 256) : wd (readB bs (8 * (k + 1))) (k / 8) = wd (readB bs (8 * k)) (k / 8) ||| (x * 2 ^ (8 * (k % 8))) := by
  apply Nat.eq_of_testBit_eq
  intro j
  rw [Nat.testBit_or, wd_bit, wd_bit, ← Nat.shiftLeft_eq, Nat.testBit_shiftLeft]
  unfold readB
  by_cases h64 : j < 64
  · rw [decide_eq_true h64, Bool.true_and, Bool.true_and]
    by_cases h1 : 64 * (k / 8) + j < 8 * k
    · rw [decide_eq_true h1, decide_eq_true (show 64 * (k / 8) + j < 8 * (k + 1) by omega), decide_eq_false (show ¬ j ≥ 8 * (k % 8) by omega)]; simp
    · rw [decide_eq_false h1, decide_eq_true (show j ≥ 8 * (k % 8) by omega), Bool.false_and, Bool.false_or, Bool.true_and]
      by_cases h2 : 64 * (k / 8) + j < 8 * (k + 1)
      · rw [decide_eq_true h2, Bool.true_and]
        have e : 64 * (k / 8) + j = 8 * k + (j - 8 * (k % 8)) := by omega
        rw [e, bitsOf_at h (by omega), Int.toNat_natCast]
      · rw [decide_eq_false h2, Bool.false_and]
        refine (Nat.testBit_lt_two_pow ?_).symm
        have : 2 ^ 8 ≤ 2 ^ (j - 8 * (k % 8)) := Nat.pow_le_pow_right (by decide) (by omega)
        omega
  · rw [decide_eq_false h64, Bool.false_and, Bool.false_and, Bool.false_or]
    by_cases h3 : j ≥ 8 * (k % 8)
    · rw [decide_eq_true h3, Bool.true_and]
      refine (Nat.testBit_lt_two_pow ?_).symm
      have : 2 ^ 8 ≤ 2 ^ (j - 8 * (k % 8)) := Nat.pow_le_pow_right (by decide) (by omega)
      omega
    · rw [decide_eq_false h3]; rfl
theorem ws_read {bs : List Int} {k W : Nat} (h : k / 8 < W) : (ws (readB bs (8 * k)) W).set (k / 8) ((wd (readB bs (8 * (k + 1))) (k / 8) : Nat) : Int) = ws (readB bs (8 * (k + 1))) W := by
  apply List.ext_getElem?
  intro i
  rw [List.getElem?_set]
  by_cases hk : k / 8 = i
  · rw [if_pos hk, ws_len, if_pos h, ← hk, ws_at h]
  · rw [if_neg hk]
    by_cases hw : i < W
    · rw [ws_at hw, ws_at hw]
      have : wd (readB bs (8 * k)) i = wd (readB bs (8 * (k + 1))) i := valF_same 64 (64 * i) fun j h1 h2 => by
        unfold readB
        congr 1
        exact decide_eq_decide.2 (by omega)
      rw [this]
    · rw [List.getElem?_eq_none (by rw [ws_len]; omega), List.getElem?_eq_none (by rw [ws_len]; omega)]
theorem sread_end {w0 w : World} {b n : Nat} {p : Option Addr} {bs : List Int} {F : Nat → Prop} {K : Value → World → Prop} (hlen : bs.length = (n + 7) / 8) (hbw : Below w0.heap.size w0 w)
    (hE : ∀ w', badB bs n = true → Below w0.heap.size w0 w' → K (.tuple #[.pointer none, .int .i64 4]) w')
    (hK : ∀ w', badB bs n = false → SetV w' b p n (bitsOf bs) F → Below w0.heap.size w0 w' → K (.tuple #[.pointer p, .int .i64 0]) w') (h : SetV w b p n (bitsOf bs) F) : set_Read.p10 K n p w := by
  have h0 := h
  obtain ⟨t, g, rfl, h1, h2, h3, h4, h5, h6, rfl⟩ := h
  have ed := tdivN n 64 (by omega)
  have em := tmodN n 64
  rw [show ((64 : Nat) : Int) = 64 from rfl] at ed em
  unfold set_Read.p10
  rw [ed, em, Int.toNat_natCast]
  refine ⟨by decide, cond_ne (fun hm => ?_) (fun hm => ?_)⟩
  · obtain ⟨a, ea, hc⟩ := (Cs.of_blk0 h5).at (nums_at (ws_at (S := bitsOf bs) (show n / 64 < (n + 63) / 64 by omega)))
    refine ⟨_, rfl, _, _, _, h4.cell' (j := 1) rfl, by decide, ⟨by omega, by omega⟩, a, ea, _, hc, by decide, by omega, ?_⟩
    rw [shrN _ _ (by omega)]
    have hbit : ∀ i, (wd (bitsOf bs) (n / 64) / 2 ^ (n % 64)).testBit i = (decide (i + n % 64 < 64) && bitsOf bs (n + i)) := fun i => by
      rw [Nat.testBit_div_two_pow, wd_bit]
      have : 64 * (n / 64) + (i + n % 64) = n + i := by omega
      rw [this]
    have hvl : wd (bitsOf bs) (n / 64) / 2 ^ (n % 64) < 18446744073709551616 := Nat.lt_of_le_of_lt (Nat.div_le_self _ _) (wd_lt _ _)
    generalize wd (bitsOf bs) (n / 64) / 2 ^ (n % 64) = v at hbit hvl
    refine cond_ne (fun hv => ?_) (fun hv => ?_)
    · obtain ⟨_, z2, _⟩ := tz_spec (show v ≠ 0 by omega) hvl
      rw [hbit] at z2
      simp only [Bool.and_eq_true, decide_eq_true_eq] at z2
      exact hE w (bad_of (Nat.le_add_right _ _) z2.2) hbw
    · refine hK w (bad_no fun i hi => ?_) h0 hbw
      have hv0 : v = 0 := by omega
      subst hv0
      by_cases hin : i < 64 * (n / 64) + 64
      · have := hbit (i - n)
        have e : n + (i - n) = i := by omega
        rw [e, decide_eq_true (by omega), Bool.true_and, Nat.zero_testBit] at this
        exact this.symm
      · exact bitsOf_end (by omega)
  · refine hK w (bad_no fun i hi => bitsOf_end (by omega)) h0 hbw
theorem sread_loop {w0 : World} {b n : Nat} {p A : Option Addr} {m c : Nat} {bs : List Int} {F : Nat → Prop} {K : Value → World → Prop} (hx : Cs w0 A (nums .u8 bs)) (hm : m = bs.length) (hby : Bytes bs) (hbb : w0.heap.size ≤ b) (hlen : bs.length = (n + 7) / 8) (hn : n ≤ 65536)
    (hE : ∀ w', badB bs n = true → Below w0.heap.size w0 w' → K (.tuple #[.pointer none, .int .i64 4]) w')
    (hK : ∀ w', badB bs n = false → SetV w' b p n (bitsOf bs) F → Below w0.heap.size w0 w' → K (.tuple #[.pointer p, .int .i64 0]) w') :
    ∀ (d k : Nat) (w : World), k + d = m → Below w0.heap.size w0 w → SetV w b p n (readB bs (8 * k)) F → set_Read.l0 K (d + 1) n p A m c m k w := by
  intro d
  induction d with
  | zero =>
    intro k w hk hb h
    rw [set_Read.l0_succ]
    show condP (decide ((k : Int) < _)) _ _
    refine cond_dec (fun h => by omega) (fun _ => ?_)
    have e : 8 * k = 8 * bs.length := by omega
    rw [e, readB_end] at h
    exact sread_end hlen hb hE hK h
  | succ d ih =>
    intro k w hk hb h
    rw [set_Read.l0_succ]
    show condP (decide ((k : Int) < _)) _ _
    refine cond_dec (fun _ => ?_) (fun h => absurd h (by omega))
    have hxk : bs[k]? = some bs[k] := List.getElem?_eq_getElem (by omega)
    have hbk := hby _ (List.getElem_mem (by omega : k < bs.length))
    obtain ⟨x, hxe⟩ : ∃ x : Nat, bs[k] = x := ⟨bs[k].toNat, by omega⟩
    rw [hxe] at hbk hxk
    obtain ⟨a, rfl, c0⟩ := (hx.below hb).at (nums_at hxk)
    unfold set_Read.p7
    rw [Int.toNat_natCast]
    refine ⟨⟨by omega, by omega⟩, a, rfl, _, c0, ?_⟩
    obtain ⟨t, g, rfl, h1, h2, h3, h4, h5, h6, rfl⟩ := h
    have ed := tdivN k 8 (by omega)
    have em := tmodN k 8
    rw [show ((8 : Nat) : Int) = 8 from rfl] at ed em
    have e8 : IntKind.wrap .i64 (8 * ((k % 8 : Nat) : Int)) = ((8 * (k % 8) : Nat) : Int) := by rw [wrap64_in (by omega) (by omega)]; push_cast; rfl
    have exu : IntKind.wrap .u64 (x : Int) = (x : Int) := wrapu64_in (by omega) (by omega)
    unfold set_Read.p8
    rw [ed, em, e8, exu, Int.toNat_natCast]
    have hkw : k / 8 < (n + 63) / 64 := by omega
    have hc : w.cell? ((⟨g, 0, none⟩ : Addr).add (k / 8)) = some (.int .u64 ((wd (readB bs (8 * k)) (k / 8) : Nat) : Int)) := by
      obtain ⟨a, ea, hc⟩ := (Cs.of_blk0 h5).at (nums_at (k := .u64) (ws_at (S := readB bs (8 * k)) hkw))
      cases ea
      exact hc
    refine ⟨fun H => H = w.heap, rfl, _, rfl, by decide, by decide, by omega, _, _, _, fun w' e => held (h4.cell' (j := 1) rfl) w' e, ⟨by omega, by omega⟩, _, rfl, _, fun w' e => held hc w' e, ⟨by omega, by omega⟩, _, rfl, ?_⟩
    have hsm : x * 2 ^ (8 * (k % 8)) < 18446744073709551616 := by
      have h1 : 2 ^ (8 * (k % 8)) ≤ 2 ^ 56 := Nat.pow_le_pow_right (by decide) (by omega)
      have h2 : x * 2 ^ (8 * (k % 8)) ≤ 255 * 2 ^ 56 := Nat.mul_le_mul (by omega) h1
      omega
    rw [shlN (by omega) hsm, ibits_or (wd_lt _ _) hsm, ← wd_read hxk (by omega)]
    refine blk_set1 (k := k / 8) h5 (by rw [nums_len, ws_len]; exact hkw) fun w' hB' hk' _ => ?_
    rw [nums_set, ws_read hkw] at hB'
    show set_Read.l0 K (d + 1) n _ (some a) m c m (IntKind.wrap .i64 ((k : Int) + 1)) w'
    rw [cst k (by omega)]
    exact ih (k + 1) w' (by omega) (hb.trans (hk'.below hb.size fun i hi e => by omega)) ⟨t, g, rfl, h1, h2, h3, h4.kp hk' (fun e => h3 e.symm), hB', h6, rfl⟩
theorem set_Read_c {w : World} {A : Option Addr} {m c : Nat} {bs : List Int} {n : Int} {K : Value → World → Prop} (hx : Cs w A (nums .u8 bs)) (hm : m = bs.length) (hby : Bytes bs)
    (hE : ∀ w', rdErr bs n ≠ 0 → Below w.heap.size w w' → K (.tuple #[.pointer none, .int .i64 (rdErr bs n)]) w')
    (hK : ∀ w' p F, rdErr bs n = 0 → 0 ≤ n → SetV w' w.heap.size p n.toNat (bitsOf bs) F → Below w.heap.size w w' → K (.tuple #[.pointer p, .int .i64 0]) w') : CallsE Pg set_Read.N #[.int .i64 n, .slice A m c] w K := by
  refine set_Read.ok ?_
  have e2 : (n < 0 ∨ 65536 < n) → K (.tuple #[.pointer none, .int .i64 2]) w := fun h => by
    have e : rdErr bs n = 2 := by unfold rdErr; rw [if_pos h]
    rw [e] at hE
    exact hE w (by decide) (Below.refl _ _)
  refine cond_dec (fun h => e2 (.inl h)) (fun h0 => ?_)
  show condP (decide (65536 < n)) _ _
  refine cond_dec (fun h => e2 (.inr h)) (fun h1 => ?_)
  obtain ⟨k, rfl⟩ := Int.eq_ofNat_of_zero_le (show 0 ≤ n by omega)
  have e1 : IntKind.wrap .i64 (Int.tdiv (IntKind.wrap .i64 ((k : Int) + 7)) 8) = (((k + 7) / 8 : Nat) : Int) := by
    rw [wrap64_in (x := (k : Int) + 7) (by omega) (by omega), Int.tdiv_eq_ediv_of_nonneg (by omega), wrap64_in (by omega) (by omega)]; omega
  unfold set_Read.p2
  rw [e1]
  refine ⟨by decide, cond_dec (fun h => ?_) (fun h2 => cond_dec (fun h => ?_) (fun h3 => ?_))⟩
  · have e : rdErr bs (k : Int) = 3 := by unfold rdErr; rw [if_neg (by omega), if_pos (by omega)]
    rw [e] at hE
    exact hE w (by decide) (Below.refl _ _)
  · have e : rdErr bs (k : Int) = 6 := by unfold rdErr; rw [if_neg (by omega), if_neg (by omega), if_pos (by omega)]
    rw [e] at hE
    exact hE w (by decide) (Below.refl _ _)
  · have e : rdErr bs (k : Int) = if badB bs k = true then 4 else 0 := by unfold rdErr; rw [if_neg (by omega), if_neg (by omega), if_neg (by omega), Int.toNat_natCast]
    rw [e] at hE hK
    rw [Int.toNat_natCast] at hK
    refine set_New_c fun w1 p F hS b1 => ⟨_, rfl, m + 1, ?_⟩
    have ec : clampN (k : Int) = k := by have := (clampN_eq (k : Int)).1; unfold imax imin at this; (repeat' split at this) <;> omega
    rw [ec] at hS
    refine sread_loop hx hm hby (Nat.le_refl _) (by omega) (by omega) (fun w' hb hbl => ?_) (fun w' hb hs hbl => ?_) m 0 w1 (by omega) b1 (by rw [Nat.mul_zero, readB_0]; exact hS)
    · rw [if_pos hb] at hE
      exact hE w' (by decide) hbl
    · rw [if_neg (by rw [hb]; decide)] at hK
      exact hK w' p F rfl (by omega) hs hbl
theorem readB_succ_true {bs : List Int} {m : Nat} (h : bitsOf bs m = true) : upd (readB bs m) m true = readB bs (m + 1) := funext fun i => by
  unfold upd readB
  by_cases hi : i = m
  · rw [if_pos hi, hi, h, decide_eq_true (by omega)]; rfl
  · rw [if_neg hi]
    congr 1
    exact decide_eq_decide.2 (by omega)
theorem readB_succ_false {bs : List Int} {m : Nat} (h : bitsOf bs m = false) : readB bs m = readB bs (m + 1) := funext fun i => by
  unfold readB
  by_cases hi : i = m
  · rw [hi, h]; simp
  · congr 1
    exact decide_eq_decide.2 (by omega)
theorem rread_byte {w0 : World} {b n : Nat} {p A : Option Addr} {m c k x : Nat} {bs : List Int} {F : Nat → Prop} {L0 : Int → Option Addr → Nat → Nat → Option Addr → Int → Int → World → Prop} {K : Value → World → Prop} (hxk : bs[k]? = some (x : Int)) (hx : x < 256) (hbb : w0.heap.size ≤ b) (hlen : bs.length = (n + 7) / 8) (hn : n ≤ 65536) (hkl : k < bs.length)
    (hE : ∀ w', badB bs n = true → Below w0.heap.size w0 w' → K (.tuple #[.pointer none, .int .i64 4]) w')
    (hK : ∀ w', Below w0.heap.size w0 w' → RefV w' b p n (readB bs (8 * (k + 1))) F → (∀ i, i < 8 * (k + 1) → n ≤ i → bitsOf bs i = false) → ref03_Read.p16 L0 K n A m c p m k w') :
    ∀ (d j : Nat) (w : World), j + d = 8 → Below w0.heap.size w0 w → RefV w b p n (readB bs (8 * k + j)) F → (∀ i, i < 8 * k + j → n ≤ i → bitsOf bs i = false) → ref03_Read.l1 L0 K (d + 1) n A m c p k ((x / 2 ^ j : Nat) : Int) j m k w := by
  intro d
  induction d with
  | zero =>
    intro j w hj hb h hno
    rw [ref03_Read.l1_succ]
    obtain rfl : j = 8 := by omega
    exact cond_dec (fun h => absurd h (by omega)) (fun _ => hK w hb h hno)
  | succ d ih =>
    intro j w hj hb h hno
    rw [ref03_Read.l1_succ]
    refine cond_dec (fun _ => ?_) (fun h => absurd h (by omega))
    have hxl : x / 2 ^ j ≤ x := Nat.div_le_self _ _
    have e2 := tmodN (x / 2 ^ j) 2
    have ed := tdivN (x / 2 ^ j) 2 (by omega)
    rw [show ((2 : Nat) : Int) = 2 from rfl] at e2 ed
    have ep : x / 2 ^ j / 2 = x / 2 ^ (j + 1) := by rw [Nat.div_div_eq_div_mul, Nat.pow_succ]
    rw [ep] at ed
    have hbit := bitsOf_at hxk (show j < 8 by omega)
    rw [Int.toNat_natCast, Nat.testBit_eq_decide_div_mod_eq] at hbit
    have ei : IntKind.wrap .i64 (IntKind.wrap .i64 (8 * (k : Int)) + (j : Int)) = ((8 * k + j : Nat) : Int) := by
      rw [wrap64_in (x := 8 * (k : Int)) (by omega) (by omega), wrap64_in (by omega) (by omega)]; push_cast; rfl
    have next : ∀ w', Below w0.heap.size w0 w' → RefV w' b p n (readB bs (8 * k + (j + 1))) F → (∀ i, i < 8 * k + (j + 1) → n ≤ i → bitsOf bs i = false) → ref03_Read.p14 (ref03_Read.l1 L0 K (d + 1)) L0 K n A m c p k ((x / 2 ^ j : Nat) : Int) j m k w' := fun w' g1 g2 g3 => by
      unfold ref03_Read.p14
      rw [ed]
      refine ⟨by decide, ?_⟩
      show ref03_Read.l1 L0 K (d + 1) n A m c p k _ (IntKind.wrap .i64 ((j : Int) + 1)) m k w'
      rw [cst j (by omega)]
      exact ih (j + 1) w' (by omega) g1 g2 g3
    unfold ref03_Read.p13
    rw [e2, ei]
    refine ⟨by decide, cond_eq (fun h1 => ?_) (fun h1 => ?_)⟩
    · have hbt : bitsOf bs (8 * k + j) = true := by rw [hbit, decide_eq_true (by omega)]
      refine cond_dec (fun hge => hE w (bad_of (by omega) hbt) hb) (fun hlt => ?_)
      obtain ⟨t, g, rfl, h1, h2, h3, h4, h5, h6, rfl⟩ := h
      rw [Int.toNat_natCast]
      refine ⟨_, rfl, _, _, _, h4.cell' (j := 0) rfl, ⟨by omega, by omega⟩, _, rfl, ?_⟩
      refine blk_set1 (k := 8 * k + j) h5 (by rw [bools_len, ins_len]; omega) fun w' hB' hk' _ => ?_
      rw [bools_set, ins_set (by omega), readB_succ_true hbt] at hB'
      refine next w' (hb.trans (hk'.below hb.size fun i hi e => by omega)) ⟨t, g, rfl, h1, h2, h3, h4.kp hk' (fun e => h3 e.symm), hB', h6, rfl⟩ (fun i i1 i2 => hno i (by omega) i2)
    · have hbt : bitsOf bs (8 * k + j) = false := by rw [hbit, decide_eq_false (by omega)]
      rw [readB_succ_false hbt] at h
      refine next w hb h (fun i i1 i2 => ?_)
      by_cases hi : i = 8 * k + j
      · rw [hi]; exact hbt
      · exact hno i (by omega) i2
theorem rread_loop {w0 : World} {b n : Nat} {p A : Option Addr} {m c : Nat} {bs : List Int} {F : Nat → Prop} {K : Value → World → Prop} (hx : Cs w0 A (nums .u8 bs)) (hm : m = bs.length) (hby : Bytes bs) (hbb : w0.heap.size ≤ b) (hlen : bs.length = (n + 7) / 8) (hn : n ≤ 65536)
    (hE : ∀ w', badB bs n = true → Below w0.heap.size w0 w' → K (.tuple #[.pointer none, .int .i64 4]) w')
    (hK : ∀ w', badB bs n = false → RefV w' b p n (bitsOf bs) F → Below w0.heap.size w0 w' → K (.tuple #[.pointer p, .int .i64 0]) w') :
    ∀ (d k : Nat) (w : World), k + d = m → Below w0.heap.size w0 w → RefV w b p n (readB bs (8 * k)) F → (∀ i, i < 8 * k → n ≤ i → bitsOf bs i = false) → ref03_Read.l0 K (d + 1) n A m c p m k w := by
  intro d
  induction d with
  | zero =>
    intro k w hk hb h hno
    rw [ref03_Read.l0_succ]
    show condP (decide ((k : Int) < _)) _ _
    refine cond_dec (fun h => by omega) (fun _ => ?_)
    have e : 8 * k = 8 * bs.length := by omega
    rw [e, readB_end] at h
    refine hK w (bad_no fun i hi => ?_) h hb
    by_cases hi2 : i < 8 * k
    · exact hno i hi2 hi
    · exact bitsOf_end (by omega)
  | succ d ih =>
    intro k w hk hb h hno
    rw [ref03_Read.l0_succ]
    show condP (decide ((k : Int) < _)) _ _
    refine cond_dec (fun _ => ?_) (fun h => absurd h (by omega))
    have hxk : bs[k]? = some bs[k] := List.getElem?_eq_getElem (by omega)
    have hbk := hby _ (List.getElem_mem (by omega : k < bs.length))
    obtain ⟨x, hxe⟩ : ∃ x : Nat, bs[k] = x := ⟨bs[k].toNat, by omega⟩
    rw [hxe] at hbk hxk
    obtain ⟨a, rfl, c0⟩ := (hx.below hb).at (nums_at hxk)
    unfold ref03_Read.p9 ref03_Read.p10
    rw [Int.toNat_natCast]
    refine ⟨⟨by omega, by omega⟩, a, rfl, _, c0, 9, ?_⟩
    have exu : IntKind.wrap .i64 (x : Int) = ((x / 2 ^ 0 : Nat) : Int) := by rw [wrap64_in (by omega) (by omega)]; simp
    rw [exu]
    refine rread_byte hxk (by omega) hbb hlen hn (by omega) hE (fun w' g1 g2 g3 => ?_) 8 0 w rfl hb h hno
    show ref03_Read.l0 K (d + 1) n (some a) m c p m (IntKind.wrap .i64 ((k : Int) + 1)) w'
    rw [cst k (by omega)]
    exact ih (k + 1) w' (by omega) g1 g2 g3
theorem ref03_Read_c {w : World} {A : Option Addr} {m c : Nat} {bs : List Int} {n : Int} {K : Value → World → Prop} (hx : Cs w A (nums .u8 bs)) (hm : m = bs.length) (hby : Bytes bs)
    (hE : ∀ w', rdErr bs n ≠ 0 → Below w.heap.size w w' → K (.tuple #[.pointer none, .int .i64 (rdErr bs n)]) w')
    (hK : ∀ w' p F, rdErr bs n = 0 → 0 ≤ n → RefV w' w.heap.size p n.toNat (bitsOf bs) F → Below w.heap.size w w' → K (.tuple #[.pointer p, .int .i64 0]) w') : CallsE Pg ref03_Read.N #[.int .i64 n, .slice A m c] w K := by
  refine ref03_Read.ok ?_
  have e2 : (n < 0 ∨ 65536 < n) → K (.tuple #[.pointer none, .int .i64 2]) w := fun h => by
    have e : rdErr bs n = 2 := by unfold rdErr; rw [if_pos h]
    rw [e] at hE
    exact hE w (by decide) (Below.refl _ _)
  refine cond_dec (fun h => e2 (.inl h)) (fun h0 => ?_)
  show condP (decide (65536 < n)) _ _
  refine cond_dec (fun h => e2 (.inr h)) (fun h1 => ?_)
  obtain ⟨k, rfl⟩ := Int.eq_ofNat_of_zero_le (show 0 ≤ n by omega)
  have e1 : IntKind.wrap .i64 (Int.tdiv (IntKind.wrap .i64 ((k : Int) + 7)) 8) = (((k + 7) / 8 : Nat) : Int) := by
    rw [wrap64_in (x := (k : Int) + 7) (by omega) (by omega), Int.tdiv_eq_ediv_of_nonneg (by omega), wrap64_in (by omega) (by omega)]; omega
  unfold ref03_Read.p2
  rw [e1]
  refine ⟨by decide, cond_dec (fun h => ?_) (fun h2 => cond_dec (fun h => ?_) (fun h3 => ?_))⟩
  · have e : rdErr bs (k : Int) = 3 := by unfold rdErr; rw [if_neg (by omega), if_pos (by omega)]
    rw [e] at hE
    exact hE w (by decide) (Below.refl _ _)
  · have e : rdErr bs (k : Int) = 6 := by unfold rdErr; rw [if_neg (by omega), if_neg (by omega), if_pos (by omega)]
    rw [e] at hE
    exact hE w (by decide) (Below.refl _ _)
  · have e : rdErr bs (k : Int) = if badB bs k = true then 4 else 0 := by unfold rdErr; rw [if_neg (by omega), if_neg (by omega), if_neg (by omega), Int.toNat_natCast]
    rw [e] at hE hK
    rw [Int.toNat_natCast] at hK
    refine ref03_New_c fun w1 p F hS b1 => ⟨_, rfl, m + 1, ?_⟩
    have ec : clampN (k : Int) = k := by have := (clampN_eq (k : Int)).1; unfold imax imin at this; (repeat' split at this) <;> omega
    rw [ec] at hS
    refine rread_loop hx hm hby (Nat.le_refl _) (by omega) (by omega) (fun w' hb hbl => ?_) (fun w' hb hs hbl => ?_) m 0 w1 (by omega) b1 (by rw [Nat.mul_zero, readB_0]; exact hS) (fun i hi => by omega)
    · rw [if_pos hb] at hE
      exact hE w' (by decide) hbl
    · rw [if_neg (by rw [hb]; decide)] at hK
      exact hK w' p F rfl (by omega) hs hbl

end Go.Proofs.YtogmnhdadggnbaaDoor.C
