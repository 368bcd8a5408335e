/-
  Parts of the proofs of this seat: what the functions compute. No condition beyond what each theorem states.
-/
import Derived.Test.YtklmaeefnmcmlaaDoorF
import Derived.Test.YtklmaeefnmcmlaaDoorRK
set_option linter.unusedVariables false
set_option linter.unusedSimpArgs false
set_option maxRecDepth 100000
namespace Go.Proofs.YtklmaeefnmcmlaaDoor.C
open Go Go.RowKit Go.Proofs.YtklmaeefnmcmlaaDoor Go.Proofs.YtklmaeefnmcmlaaDoor.Sh Go.Proofs.YtklmaeefnmcmlaaDoor.F Go.Proofs.YtklmaeefnmcmlaaDoor.R

/-! ### lists of whole numbers -/
def nums (k : IntKind) (xs : List Int) : List Value := xs.map fun x => .int k x
theorem nums_len (k : IntKind) (xs : List Int) : (nums k xs).length = xs.length := by simp [nums]
theorem nums_at {k : IntKind} {xs : List Int} {j : Nat} {x : Int} (h : xs[j]? = some x) : (nums k xs)[j]? = some (.int k x) := by simp [nums, h]
theorem nums_one (k : IntKind) (xs : List Int) : ∀ u ∈ nums k xs, u.oneCell' = true := fun u hu => by
  obtain ⟨x, _, rfl⟩ := List.mem_map.1 hu
  rfl
theorem nums_app (k : IntKind) (xs ys : List Int) : nums k (xs ++ ys) = nums k xs ++ nums k ys := by simp [nums]
theorem take_snoc {α : Type} {xs : List α} {k : Nat} {x : α} (h : xs[k]? = some x) : xs.take (k + 1) = xs.take k ++ [x] := by
  obtain ⟨hk, rfl⟩ := List.getElem?_eq_some_iff.1 h
  rw [List.take_succ_eq_append_getElem hk]
/-! ### bits and bytes -/
def U64 (h : Int) : Prop := 0 ≤ h ∧ h ≤ 18446744073709551615
theorem wf_i64 {n : Int} (h : (Lit.int .i64 n).wf = true) : -9223372036854775808 ≤ n ∧ n ≤ 9223372036854775807 := by
  simp [Lit.wf, IntKind.min, IntKind.max, IntKind.bits, IntKind.signed] at h
  omega
theorem wf_u64 {n : Int} (h : (Lit.int .u64 n).wf = true) : U64 n := by
  simp [Lit.wf, IntKind.min, IntKind.max, IntKind.bits, IntKind.signed] at h
  exact ⟨by omega, by omega⟩
theorem wf_u8 {n : Int} (h : (Lit.int .u8 n).wf = true) : 0 ≤ n ∧ n ≤ 255 := by
  simp [Lit.wf, IntKind.min, IntKind.max, IntKind.bits, IntKind.signed] at h
  omega
def Bytes (bs : List Int) : Prop := ∀ x ∈ bs, 0 ≤ x ∧ x ≤ 255
theorem ofInt64 (x : Nat) : BitVec.ofInt (IntKind.u64).bits (x : Int) = BitVec.ofNat 64 x := BitVec.ofInt_natCast 64 x
theorem ofInt8 (x : Nat) : BitVec.ofInt (IntKind.u8).bits (x : Int) = BitVec.ofNat 8 x := BitVec.ofInt_natCast 8 x
/-- A number is put above the bits of a lesser one. -/
theorem or_shl {a x s : Nat} (ha : a < 2 ^ s) (hs : s < 64) (hx : x * 2 ^ s + a < 2 ^ 64) : ibits .or .u64 (a : Int) (ishl .u64 (x : Int) (s : Int)) = ((a + x * 2 ^ s : Nat) : Int) := by
  have e3 : ishl .u64 (x : Int) (s : Int) = ((x <<< s : Nat) : Int) := by
    unfold ishl
    have h1 : min (s : Int).toNat (IntKind.u64).bits = s := by
      have : (IntKind.u64).bits = 64 := rfl
      rw [this, Int.toNat_natCast]; omega
    rw [h1, Nat.shiftLeft_eq]
    have : ((x : Int) * 2 ^ s) = ((x * 2 ^ s : Nat) : Int) := by push_cast; rfl
    rw [this, wrapu64_in (by omega) (by omega)]
  rw [e3]
  unfold ibits
  simp only []
  rw [ofInt64, ofInt64]
  have hb : x <<< s < 2 ^ 64 := by rw [Nat.shiftLeft_eq]; omega
  have h3 : (BitVec.ofNat 64 a ||| BitVec.ofNat 64 (x <<< s)).toNat = a + x * 2 ^ s := by
    rw [BitVec.toNat_or, BitVec.toNat_ofNat, BitVec.toNat_ofNat, Nat.mod_eq_of_lt hb, Nat.mod_eq_of_lt (by omega), Nat.or_comm, ← Nat.shiftLeft_add_eq_or_of_lt ha, Nat.shiftLeft_eq]
    omega
  have h4 : IntKind.wrap .u64 ((a + x * 2 ^ s : Nat) : Int) = ((a + x * 2 ^ s : Nat) : Int) := wrapu64_in (by omega) (by omega)
  refine Eq.trans ?_ h4
  congr 1
  exact congrArg Nat.cast h3
theorem shr_eq {a : Int} (ha : 0 ≤ a) {s : Nat} (hs : s ≤ 64) : ishr .u64 a (s : Int) = a / ((2 ^ s : Nat) : Int) := by
  unfold ishr
  have h1 : min (s : Int).toNat (IntKind.u64).bits = s := by
    have : (IntKind.u64).bits = 64 := rfl
    rw [this, Int.toNat_natCast]; omega
  rw [h1]
  have : ((2 : Int) ^ s) = ((2 ^ s : Nat) : Int) := by push_cast; rfl
  rw [this]
  exact Int.fdiv_eq_ediv_of_nonneg a (Int.natCast_nonneg _)
theorem and127 {c : Int} (h0 : 0 ≤ c) (h1 : c ≤ 255) : ibits .and .u8 c 127 = c % 128 := by
  obtain ⟨x, rfl⟩ := Int.eq_ofNat_of_zero_le h0
  unfold ibits
  simp only []
  rw [ofInt8, show (127 : Int) = ((127 : Nat) : Int) from rfl, ofInt8]
  have h3 : (BitVec.ofNat 8 x &&& BitVec.ofNat 8 127).toNat = x % 128 := by
    rw [BitVec.toNat_and, BitVec.toNat_ofNat, BitVec.toNat_ofNat, Nat.mod_eq_of_lt (show x < 2 ^ 8 by omega)]
    exact Nat.and_two_pow_sub_one_eq_mod x 7
  have h4 : IntKind.wrap .u8 ((x % 128 : Nat) : Int) = (x : Int) % 128 := by rw [wrapu8_eq]; omega
  rw [← h4]
  congr 1
  exact congrArg Nat.cast h3
theorem or128 {c : Int} (h0 : 0 ≤ c) (h1 : c ≤ 255) : ibits .or .u8 c 128 = c % 128 + 128 := by
  obtain ⟨x, rfl⟩ := Int.eq_ofNat_of_zero_le h0
  unfold ibits
  simp only []
  rw [ofInt8, show (128 : Int) = ((128 : Nat) : Int) from rfl, ofInt8]
  have hx : ∀ y : Fin 256, (BitVec.ofNat 8 y.val ||| BitVec.ofNat 8 128).toNat = y.val % 128 + 128 := by decide
  have h3 := hx ⟨x, by omega⟩
  simp only at h3
  have h4 : IntKind.wrap .u8 ((x % 128 + 128 : Nat) : Int) = (x : Int) % 128 + 128 := by rw [wrapu8_eq]; omega
  have h5 : ((128 : Nat) : Int) = 128 := rfl
  rw [h5, ← h4]
  congr 1
  exact congrArg Nat.cast h3
/-! bytes in memory -/
theorem byte_info : (Pg.info? Ty.uint8).map (fun i => (i.zero, i.size, i.bytes)) = some (some (.int .u8 0), 1, 1) := by kernel_rfl
theorem bytes_u8 {w : World} {A : Option Addr} {bs : List Int} (h : Cs w A (nums .u8 bs)) (hb : Bytes bs) : bytesAt w A bs.length (bs.map fun x => UInt8.ofNat x.toNat) := by
  refine ⟨by simp, fun j b hj => ?_⟩
  rw [List.getElem?_map, Option.map_eq_some_iff] at hj
  obtain ⟨x, hx, rfl⟩ := hj
  obtain ⟨a, e, hc⟩ := h.at (nums_at hx)
  refine ⟨a, e, ?_⟩
  have hr := hb x (List.mem_of_getElem? hx)
  have : ((UInt8.ofNat x.toNat).toNat : Int) = x := by
    rw [UInt8.toNat_ofNat']
    omega
  rw [this]
  exact hc
/-- make([]byte, n): n zeros. -/
theorem made_bytes (n : Nat) : madeCells #[.int .u8 0] (n * 1) = ⟨nums .u8 (List.replicate n 0)⟩ := by
  rw [← Array.toList_inj, Nat.mul_one, toList_madeCells_one]
  simp [nums]
theorem cst (k : Nat) (h : (k : Int) + 1 ≤ 9223372036854775807) : IntKind.wrap .i64 ((k : Int) + 1) = ((k + 1 : Nat) : Int) := by rw [wrap64_in (by omega) (by omega)]; rfl
theorem held {w : World} {a : Addr} {v : Value} (hc : w.cell? a = some v) : ∀ w' : World, w'.heap = w.heap → w'.cell? a = some v := fun w' e => by
  unfold World.cell? at hc ⊢
  rw [e]; exact hc
/-! ### bits of numbers, sets of places: plain -/
def valF (S : Nat → Bool) : Nat → Nat → Nat
  | _, 0 => 0
  | b, j + 1 => (S b).toNat + 2 * valF S (b + 1) j
theorem valF_lt (S : Nat → Bool) : ∀ j b, valF S b j < 2 ^ j
  | 0, _ => by simp [valF]
  | j + 1, b => by
    have := valF_lt S j (b + 1)
    have := Bool.toNat_le (S b)
    rw [valF, Nat.pow_succ]; omega
theorem valF_bit (S : Nat → Bool) : ∀ j b i, (valF S b j).testBit i = (decide (i < j) && S (b + i))
  | 0, b, i => by simp [valF]
  | j + 1, b, 0 => by
    rw [valF, Nat.testBit_zero]
    cases S b <;> simp <;> omega
  | j + 1, b, i + 1 => by
    have e : ((S b).toNat + 2 * valF S (b + 1) j) / 2 = valF S (b + 1) j := by cases S b <;> simp <;> omega
    rw [valF, Nat.testBit_succ, e, valF_bit S j (b + 1) i]
    have e2 : b + 1 + i = b + (i + 1) := by omega
    rw [e2]
    congr 1
    exact decide_eq_decide.2 (by omega)
theorem valF_div (S : Nat → Bool) (b n j : Nat) (h : j ≤ n) : valF S b n / 2 ^ j = valF S (b + j) (n - j) := by
  apply Nat.eq_of_testBit_eq
  intro i
  rw [Nat.testBit_div_two_pow, valF_bit, valF_bit]
  have e2 : b + (i + j) = b + j + i := by omega
  rw [e2]
  congr 1
  exact decide_eq_decide.2 (by omega)
theorem valF_mod (S : Nat → Bool) (b n l : Nat) (h : l ≤ n) : valF S b n % 2 ^ l = valF S b l := by
  apply Nat.eq_of_testBit_eq
  intro i
  rw [Nat.testBit_mod_two_pow, valF_bit, valF_bit]
  by_cases hi : i < l
  · rw [decide_eq_true hi, decide_eq_true (show i < n by omega)]; simp
  · rw [decide_eq_false hi]; simp
theorem valF_same {S T : Nat → Bool} : ∀ (j b : Nat), (∀ i, b ≤ i → i < b + j → S i = T i) → valF S b j = valF T b j
  | 0, _, _ => rfl
  | j + 1, b, h => by rw [valF, valF, h b (by omega) (by omega), valF_same j (b + 1) (fun i h1 h2 => h i (by omega) (by omega))]
def upd (S : Nat → Bool) (i : Nat) (v : Bool) : Nat → Bool := fun k => if k = i then v else S k
theorem upd_self (S : Nat → Bool) (i : Nat) (v : Bool) : upd S i v i = v := by unfold upd; rw [if_pos rfl]
theorem upd_ne {S : Nat → Bool} {i k : Nat} {v : Bool} (h : k ≠ i) : upd S i v k = S k := by unfold upd; rw [if_neg h]
def wd (S : Nat → Bool) (k : Nat) : Nat := valF S (64 * k) 64
theorem wd_lt (S : Nat → Bool) (k : Nat) : wd S k < 18446744073709551616 := valF_lt S 64 (64 * k)
theorem wd_bit (S : Nat → Bool) (k i : Nat) : (wd S k).testBit i = (decide (i < 64) && S (64 * k + i)) := valF_bit S 64 (64 * k) i
theorem wd_other {S : Nat → Bool} {i k : Nat} {v : Bool} (h : k ≠ i / 64) : wd (upd S i v) k = wd S k := valF_same 64 (64 * k) fun j h1 h2 => upd_ne (by omega)
theorem wd_add (S : Nat → Bool) (i : Nat) : wd (upd S i true) (i / 64) = wd S (i / 64) ||| 2 ^ (i % 64) := by
  apply Nat.eq_of_testBit_eq
  intro j
  rw [Nat.testBit_or, wd_bit, wd_bit, Nat.testBit_two_pow]
  by_cases hj : i % 64 = j
  · rw [decide_eq_true hj, decide_eq_true (show j < 64 by omega)]
    have : 64 * (i / 64) + j = i := by omega
    rw [this, upd_self]; simp
  · rw [decide_eq_false hj, Bool.or_false]
    by_cases h64 : j < 64
    · rw [upd_ne (by omega)]
    · rw [decide_eq_false h64]; simp
theorem wd_del (S : Nat → Bool) (i : Nat) : wd (upd S i false) (i / 64) = wd S (i / 64) &&& (18446744073709551616 - (2 ^ (i % 64) + 1)) := by
  have hp : 2 ^ (i % 64) < 2 ^ 64 := Nat.pow_lt_pow_right (by decide) (Nat.mod_lt _ (by decide))
  apply Nat.eq_of_testBit_eq
  intro j
  have e64 : (18446744073709551616 : Nat) = 2 ^ 64 := by decide
  rw [Nat.testBit_and, wd_bit, wd_bit, e64, Nat.testBit_two_pow_sub_succ hp, Nat.testBit_two_pow]
  by_cases hj : i % 64 = j
  · rw [decide_eq_true hj]
    have : 64 * (i / 64) + j = i := by omega
    rw [this, upd_self]; simp
  · rw [decide_eq_false hj]
    by_cases h64 : j < 64
    · rw [upd_ne (by omega), decide_eq_true h64]; simp
    · rw [decide_eq_false h64]; simp
def ws (S : Nat → Bool) (W : Nat) : List Int := (List.range W).map fun k => (wd S k : Int)
theorem ws_len (S : Nat → Bool) (W : Nat) : (ws S W).length = W := by simp [ws]
theorem ws_at {S : Nat → Bool} {W k : Nat} (h : k < W) : (ws S W)[k]? = some ((wd S k : Nat) : Int) := by simp [ws, h]
theorem ws_set {S : Nat → Bool} {W i : Nat} {v : Bool} (h : i / 64 < W) : (ws S W).set (i / 64) ((wd (upd S i v) (i / 64) : Nat) : Int) = ws (upd S i v) W := by
  apply List.ext_getElem?
  intro k
  rw [List.getElem?_set]
  by_cases hk : i / 64 = k
  · rw [if_pos hk, ws_len, if_pos h, ← hk, ws_at h]
  · rw [if_neg hk]
    by_cases hw : k < W
    · rw [ws_at hw, ws_at hw, wd_other (by omega)]
    · rw [List.getElem?_eq_none (by rw [ws_len]; omega), List.getElem?_eq_none (by rw [ws_len]; omega)]
def ins (S : Nat → Bool) (n : Nat) : List Bool := (List.range n).map S
theorem ins_len (S : Nat → Bool) (n : Nat) : (ins S n).length = n := by simp [ins]
theorem ins_at {S : Nat → Bool} {n k : Nat} (h : k < n) : (ins S n)[k]? = some (S k) := by simp [ins, h]
theorem ins_set {S : Nat → Bool} {n i : Nat} {v : Bool} (h : i < n) : (ins S n).set i v = ins (upd S i v) n := by
  apply List.ext_getElem?
  intro k
  rw [List.getElem?_set]
  by_cases hk : i = k
  · rw [if_pos hk, ins_len, if_pos h, ← hk, ins_at h, upd_self]
  · rw [if_neg hk]
    by_cases hw : k < n
    · rw [ins_at hw, ins_at hw, upd_ne (by omega)]
    · rw [List.getElem?_eq_none (by rw [ins_len]; omega), List.getElem?_eq_none (by rw [ins_len]; omega)]
/-! operations on bits -/
theorem ibits_or {x y : Nat} (hx : x < 18446744073709551616) (hy : y < 18446744073709551616) : ibits .or .u64 (x : Int) (y : Int) = ((x ||| y : Nat) : Int) := by
  unfold ibits
  simp only []
  rw [ofInt64, ofInt64]
  have h3 : (BitVec.ofNat 64 x ||| BitVec.ofNat 64 y).toNat = x ||| y := by
    rw [BitVec.toNat_or, BitVec.toNat_ofNat, BitVec.toNat_ofNat, Nat.mod_eq_of_lt (show x < 2 ^ 64 from hx), Nat.mod_eq_of_lt (show y < 2 ^ 64 from hy)]
  have hl : x ||| y < 2 ^ 64 := Nat.or_lt_two_pow hx hy
  have h4 : IntKind.wrap .u64 ((x ||| y : Nat) : Int) = ((x ||| y : Nat) : Int) := wrapu64_in (by omega) (by omega)
  refine Eq.trans ?_ h4
  congr 1
  exact congrArg Nat.cast h3
theorem ibits_and {x y : Nat} (hx : x < 18446744073709551616) (hy : y < 18446744073709551616) : ibits .and .u64 (x : Int) (y : Int) = ((x &&& y : Nat) : Int) := by
  unfold ibits
  simp only []
  rw [ofInt64, ofInt64]
  have h3 : (BitVec.ofNat 64 x &&& BitVec.ofNat 64 y).toNat = x &&& y := by
    rw [BitVec.toNat_and, BitVec.toNat_ofNat, BitVec.toNat_ofNat, Nat.mod_eq_of_lt (show x < 2 ^ 64 from hx), Nat.mod_eq_of_lt (show y < 2 ^ 64 from hy)]
  have hl : x &&& y < 2 ^ 64 := Nat.and_lt_two_pow x hy
  have h4 : IntKind.wrap .u64 ((x &&& y : Nat) : Int) = ((x &&& y : Nat) : Int) := wrapu64_in (by omega) (by omega)
  refine Eq.trans ?_ h4
  congr 1
  exact congrArg Nat.cast h3
theorem ibits_xor {x y : Nat} (hx : x < 18446744073709551616) (hy : y < 18446744073709551616) : ibits .xor .u64 (x : Int) (y : Int) = ((x ^^^ y : Nat) : Int) := by
  unfold ibits
  simp only []
  rw [ofInt64, ofInt64]
  have h3 : (BitVec.ofNat 64 x ^^^ BitVec.ofNat 64 y).toNat = x ^^^ y := by
    rw [BitVec.toNat_xor, BitVec.toNat_ofNat, BitVec.toNat_ofNat, Nat.mod_eq_of_lt (show x < 2 ^ 64 from hx), Nat.mod_eq_of_lt (show y < 2 ^ 64 from hy)]
  have hl : x ^^^ y < 2 ^ 64 := Nat.xor_lt_two_pow hx hy
  have h4 : IntKind.wrap .u64 ((x ^^^ y : Nat) : Int) = ((x ^^^ y : Nat) : Int) := wrapu64_in (by omega) (by omega)
  refine Eq.trans ?_ h4
  congr 1
  exact congrArg Nat.cast h3
theorem ibits_andNot {x y : Nat} (hx : x < 18446744073709551616) (hy : y < 18446744073709551616) : ibits .andNot .u64 (x : Int) (y : Int) = ((x &&& (18446744073709551616 - (y + 1)) : Nat) : Int) := by
  unfold ibits
  simp only []
  rw [ofInt64, ofInt64]
  have h3 : (BitVec.ofNat 64 x &&& ~~~ BitVec.ofNat 64 y).toNat = x &&& (18446744073709551616 - (y + 1)) := by
    rw [BitVec.toNat_and, BitVec.toNat_not, BitVec.toNat_ofNat, BitVec.toNat_ofNat, Nat.mod_eq_of_lt (show x < 2 ^ 64 from hx), Nat.mod_eq_of_lt (show y < 2 ^ 64 from hy)]
    congr 1
    omega
  have hl : x &&& (18446744073709551616 - (y + 1)) < 2 ^ 64 := Nat.and_lt_two_pow x (by omega)
  have h4 : IntKind.wrap .u64 ((x &&& (18446744073709551616 - (y + 1)) : Nat) : Int) = ((x &&& (18446744073709551616 - (y + 1)) : Nat) : Int) := wrapu64_in (by omega) (by omega)
  refine Eq.trans ?_ h4
  congr 1
  exact congrArg Nat.cast h3
theorem shrN (x s : Nat) (hs : s ≤ 64) : ishr .u64 (x : Int) (s : Int) = ((x / 2 ^ s : Nat) : Int) := by
  rw [shr_eq (Int.natCast_nonneg _) hs]; exact (Int.natCast_ediv _ _).symm
theorem shl1 {s : Nat} (hs : s < 64) : ishl .u64 1 (s : Int) = ((2 ^ s : Nat) : Int) := by
  unfold ishl
  have h1 : min (s : Int).toNat (IntKind.u64).bits = s := by
    have : (IntKind.u64).bits = 64 := rfl
    rw [this, Int.toNat_natCast]; omega
  have hp : 2 ^ s < 2 ^ 64 := Nat.pow_lt_pow_right (by decide) hs
  have e : (1 : Int) * 2 ^ s = ((2 ^ s : Nat) : Int) := by rw [Int.one_mul]; push_cast; rfl
  rw [h1, e]
  generalize 2 ^ s = q at hp
  exact wrapu64_in (by omega) (by omega)
theorem and_one (x : Nat) (hx : x < 18446744073709551616) : ibits .and .u64 (x : Int) 1 = ((x % 2 : Nat) : Int) := by
  rw [show (1 : Int) = ((1 : Nat) : Int) from rfl, ibits_and hx (by decide), Nat.and_one_is_mod]
theorem wd_get (S : Nat → Bool) (i : Nat) : ((ibits .and .u64 (ishr .u64 (wd S (i / 64) : Int) ((i % 64 : Nat) : Int)) 1) == (1 : Int)) = S i := by
  have hl := wd_lt S (i / 64)
  have hd : wd S (i / 64) / 2 ^ (i % 64) < 18446744073709551616 := Nat.lt_of_le_of_lt (Nat.div_le_self _ _) hl
  rw [shrN _ _ (by omega), and_one _ hd]
  have hb := wd_bit S (i / 64) (i % 64)
  have e : 64 * (i / 64) + i % 64 = i := by omega
  rw [e, decide_eq_true (show i % 64 < 64 by omega), Bool.true_and, Nat.testBit_eq_decide_div_mod_eq] at hb
  rw [← hb]
  by_cases h : wd S (i / 64) / 2 ^ (i % 64) % 2 = 1
  · rw [h]; rfl
  · have h0 : wd S (i / 64) / 2 ^ (i % 64) % 2 = 0 := by omega
    rw [h0]; rfl
/-! counting -/
def cnt (S : Nat → Bool) : Nat → Nat → Nat
  | _, 0 => 0
  | b, n + 1 => (S b).toNat + cnt S (b + 1) n
theorem cnt_le (S : Nat → Bool) : ∀ (n b : Nat), cnt S b n ≤ n
  | 0, _ => Nat.le_refl _
  | n + 1, b => by have := cnt_le S n (b + 1); have := Bool.toNat_le (S b); rw [cnt]; omega
theorem cnt_add (S : Nat → Bool) : ∀ (m b n : Nat), cnt S b (m + n) = cnt S b m + cnt S (b + m) n
  | 0, b, n => by simp [cnt]
  | m + 1, b, n => by
    have e : m + 1 + n = (m + n) + 1 := by omega
    have e2 : b + 1 + m = b + (m + 1) := by omega
    rw [e, cnt, cnt, cnt_add S m (b + 1) n, e2]; omega
theorem cnt_none (S : Nat → Bool) : ∀ (n b : Nat), (∀ i, b ≤ i → S i = false) → cnt S b n = 0
  | 0, _, _ => rfl
  | n + 1, b, h => by rw [cnt, h b (Nat.le_refl _), cnt_none S n (b + 1) (fun i hi => h i (by omega))]; rfl
def memL (S : Nat → Bool) : Nat → Nat → List Int
  | _, 0 => []
  | b, n + 1 => if S b then (b : Int) :: memL S (b + 1) n else memL S (b + 1) n
theorem memL_len (S : Nat → Bool) : ∀ (n b : Nat), (memL S b n).length = cnt S b n
  | 0, _ => rfl
  | n + 1, b => by
    rw [memL, cnt]
    cases S b with
    | false => simp [memL_len S n (b + 1)]
    | true => simp [memL_len S n (b + 1)]; omega
def nxt (S : Nat → Bool) (want : Bool) : Nat → Nat → Int
  | _, 0 => -1
  | b, n + 1 => if S b = want then (b : Int) else nxt S want (b + 1) n
theorem nxt_skip {S : Nat → Bool} {want : Bool} {n g : Nat} : ∀ (d f : Nat), f + d = g → (∀ i, f ≤ i → i < g → S i ≠ want) → nxt S want f (n - f) = nxt S want g (n - g)
  | 0, f, h, _ => by subst h; rfl
  | d + 1, f, h, hs => by
    by_cases hf : f < n
    · obtain ⟨k, hk⟩ : ∃ k, n - f = k + 1 := ⟨n - f - 1, by omega⟩
      have hk2 : k = n - (f + 1) := by omega
      rw [hk, nxt, if_neg (hs f (Nat.le_refl _) (by omega)), hk2]
      exact nxt_skip d (f + 1) (by omega) (fun i h1 h2 => hs i (by omega) h2)
    · have e1 : n - f = 0 := by omega
      have e2 : n - g = 0 := by omega
      rw [e1, e2]; rfl
theorem nxt_here {S : Nat → Bool} {want : Bool} {n f : Nat} (h : f < n) (hs : S f = want) : nxt S want f (n - f) = f := by
  obtain ⟨k, hk⟩ : ∃ k, n - f = k + 1 := ⟨n - f - 1, by omega⟩
  rw [hk, nxt, if_pos hs]
theorem nxt_end {S : Nat → Bool} {want : Bool} {n f : Nat} (h : n ≤ f) : nxt S want f (n - f) = -1 := by
  have e1 : n - f = 0 := by omega
  rw [e1]; rfl
/-! the ones of a number of 64 bits -/
def pc : Nat → Nat → Nat
  | 0, _ => 0
  | n + 1, x => x % 2 + pc n (x / 2)
theorem pc_valF (S : Nat → Bool) : ∀ (n b : Nat), pc n (valF S b n) = cnt S b n
  | 0, _ => rfl
  | n + 1, b => by
    have e1 : ((S b).toNat + 2 * valF S (b + 1) n) % 2 = (S b).toNat := by cases S b <;> simp <;> omega
    have e2 : ((S b).toNat + 2 * valF S (b + 1) n) / 2 = valF S (b + 1) n := by cases S b <;> simp <;> omega
    rw [valF, pc, cnt, e1, e2, pc_valF S n (b + 1)]
def mapB (f : Nat → Nat) : Nat → Nat → Nat
  | 0, _ => 0
  | n + 1, x => f (x % 256) + 256 * mapB f n (x / 256)
def rep (d : Nat) : Nat → Nat
  | 0 => 0
  | n + 1 => d + 256 * rep d n
theorem land256 (x d n : Nat) (hd : d < 256) : x &&& rep d (n + 1) = (x % 256 &&& d) + 256 * (x / 256 &&& rep d n) := by
  have e1 : rep d (n + 1) % 2 ^ 8 = d := by rw [rep]; omega
  have e2 : rep d (n + 1) / 2 ^ 8 = rep d n := by rw [rep]; omega
  have h1 : (x &&& rep d (n + 1)) % 2 ^ 8 = x % 2 ^ 8 &&& rep d (n + 1) % 2 ^ 8 := Nat.and_mod_two_pow
  have h2 : (x &&& rep d (n + 1)) / 2 ^ 8 = x / 2 ^ 8 &&& rep d (n + 1) / 2 ^ 8 := Nat.and_div_two_pow
  rw [e1] at h1
  rw [e2] at h2
  have := Nat.div_add_mod (x &&& rep d (n + 1)) 256
  have h1' : (x &&& rep d (n + 1)) % 256 = x % 256 &&& d := h1
  have h2' : (x &&& rep d (n + 1)) / 256 = x / 256 &&& rep d n := h2
  rw [h1', h2'] at this
  omega
def fa (b : Nat) : Nat := (b / 2 &&& 85) + (b &&& 85)
def fb (b : Nat) : Nat := (b / 4 &&& 51) + (b &&& 51)
def fc (b : Nat) : Nat := (b / 16 + b) % 16
theorem byte_a : ∀ b : Fin 256, ∀ r : Fin 2, (b.val / 2 + 128 * r.val) &&& 85 = b.val / 2 &&& 85 := by decide +kernel
theorem byte_b : ∀ b : Fin 256, ∀ r : Fin 4, (b.val / 4 + 64 * r.val) &&& 51 = b.val / 4 &&& 51 := by decide +kernel
theorem step_a : ∀ (n x : Nat), (x / 2 &&& rep 85 n) + (x &&& rep 85 n) = mapB fa n x
  | 0, x => by simp [rep, mapB]
  | n + 1, x => by
    rw [land256 (x / 2) 85 n (by decide), land256 x 85 n (by decide), mapB, ← step_a n (x / 256)]
    have e1 : x / 2 / 256 = x / 256 / 2 := by omega
    have e2 : x / 2 % 256 = x % 256 / 2 + 128 * (x / 256 % 2) := by omega
    have := byte_a ⟨x % 256, Nat.mod_lt _ (by decide)⟩ ⟨x / 256 % 2, Nat.mod_lt _ (by decide)⟩
    simp only at this
    rw [e1, e2, this]
    unfold fa; omega
theorem step_b : ∀ (n x : Nat), (x / 4 &&& rep 51 n) + (x &&& rep 51 n) = mapB fb n x
  | 0, x => by simp [rep, mapB]
  | n + 1, x => by
    rw [land256 (x / 4) 51 n (by decide), land256 x 51 n (by decide), mapB, ← step_b n (x / 256)]
    have e1 : x / 4 / 256 = x / 256 / 4 := by omega
    have e2 : x / 4 % 256 = x % 256 / 4 + 64 * (x / 256 % 4) := by omega
    have := byte_b ⟨x % 256, Nat.mod_lt _ (by decide)⟩ ⟨x / 256 % 4, Nat.mod_lt _ (by decide)⟩
    simp only at this
    rw [e1, e2, this]
    unfold fb; omega
def Low : Nat → Nat → Prop
  | 0, y => y = 0
  | n + 1, y => (y % 256) % 16 ≤ 4 ∧ (y % 256) / 16 ≤ 4 ∧ Low n (y / 256)
theorem step_c : ∀ (n y : Nat), Low n y → (y / 16 + y) &&& rep 15 n = mapB fc n y
  | 0, y, _ => by simp [rep, mapB]
  | n + 1, y, h => by
    obtain ⟨h1, h2, h3⟩ := h
    have hq : y / 256 % 16 ≤ 4 := by
      cases n with
      | zero => have h3 : y / 256 = 0 := h3; omega
      | succ n => have := h3.1; omega
    rw [land256 _ 15 n (by decide), mapB, ← step_c n (y / 256) h3]
    have e1 : (y / 16 + y) / 256 = y / 256 / 16 + y / 256 := by omega
    have e2 : (y / 16 + y) % 256 = y % 256 / 16 + y % 256 + 16 * (y / 256 % 16) := by omega
    have e3 : ∀ z : Nat, z &&& 15 = z % 16 := fun z => Nat.and_two_pow_sub_one_eq_mod z 4
    rw [e1, e2, e3]
    unfold fc; omega
theorem mapB_mod {f : Nat → Nat} (n x : Nat) (h : f (x % 256) < 256) : mapB f (n + 1) x % 256 = f (x % 256) := by rw [mapB]; omega
theorem mapB_div {f : Nat → Nat} (n x : Nat) (h : f (x % 256) < 256) : mapB f (n + 1) x / 256 = mapB f n (x / 256) := by rw [mapB]; omega
theorem mapB_comp {f g : Nat → Nat} (hg : ∀ b, b < 256 → g b < 256) : ∀ (n x : Nat), mapB f n (mapB g n x) = mapB (fun b => f (g b)) n x
  | 0, _ => rfl
  | n + 1, x => by
    have h := hg (x % 256) (Nat.mod_lt _ (by decide))
    rw [mapB, mapB_mod n x h, mapB_div n x h, mapB_comp hg n (x / 256), mapB]
theorem mapB_same {f g : Nat → Nat} (h : ∀ b, b < 256 → f b = g b) : ∀ (n x : Nat), mapB f n x = mapB g n x
  | 0, _ => rfl
  | n + 1, x => by rw [mapB, mapB, h _ (Nat.mod_lt _ (by decide)), mapB_same h n]
theorem mapB_low {g : Nat → Nat} (hg : ∀ b, b < 256 → g b < 256 ∧ g b % 16 ≤ 4 ∧ g b / 16 ≤ 4) : ∀ (n x : Nat), Low n (mapB g n x)
  | 0, _ => rfl
  | n + 1, x => by
    have h := hg (x % 256) (Nat.mod_lt _ (by decide))
    refine ⟨?_, ?_, ?_⟩
    · rw [mapB_mod n x h.1]; exact h.2.1
    · rw [mapB_mod n x h.1]; exact h.2.2
    · rw [mapB_div n x h.1]; exact mapB_low hg n _
theorem mapB_lt {g : Nat → Nat} {c : Nat} (hg : ∀ b, b < 256 → g b ≤ c) : ∀ (n x : Nat), mapB g n x ≤ rep c n
  | 0, _ => Nat.le_refl _
  | n + 1, x => by
    have h := hg (x % 256) (Nat.mod_lt _ (by decide))
    have := mapB_lt hg n (x / 256)
    rw [mapB, rep]; omega
theorem bytes_all {p : Nat → Prop} [DecidablePred p] (h : ∀ b : Fin 256, p b.val) : ∀ b, b < 256 → p b := fun b hb => h ⟨b, hb⟩
theorem fa_lt : ∀ b, b < 256 → fa b ≤ 170 := bytes_all (p := fun b => fa b ≤ 170) (by decide +kernel)
theorem fba_low : ∀ b, b < 256 → fb (fa b) < 256 ∧ fb (fa b) % 16 ≤ 4 ∧ fb (fa b) / 16 ≤ 4 := bytes_all (p := fun b => fb (fa b) < 256 ∧ fb (fa b) % 16 ≤ 4 ∧ fb (fa b) / 16 ≤ 4) (by decide +kernel)
theorem fba_lt : ∀ b, b < 256 → fb (fa b) ≤ 68 := bytes_all (p := fun b => fb (fa b) ≤ 68) (by decide +kernel)
theorem fcba : ∀ b, b < 256 → fc (fb (fa b)) = pc 8 b := bytes_all (p := fun b => fc (fb (fa b)) = pc 8 b) (by decide +kernel)
theorem pc8_le (x : Nat) : pc 8 x ≤ 8 := by simp only [pc]; omega
theorem pc_byte (n x : Nat) : pc (8 * (n + 1)) x = pc 8 (x % 256) + pc (8 * n) (x / 256) := by
  have e : 8 * (n + 1) = 8 * n + 1 + 1 + 1 + 1 + 1 + 1 + 1 + 1 := by omega
  rw [e]
  simp only [pc]
  have e2 : x / 2 / 2 / 2 / 2 / 2 / 2 / 2 / 2 = x / 256 := by omega
  rw [e2]
  omega
theorem swar1 {c0 t0 t1 : Nat} (e0 : t0 = c0 + 256 * t1) (h0 : c0 ≤ 8) : t0 / 256 = t1 := by omega
theorem swar2 {c0 c1 c2 t0 t1 t2 t3 : Nat} (e0 : t0 = c0 + 256 * t1) (e1 : t1 = c1 + 256 * t2) (e2 : t2 = c2 + 256 * t3) (h0 : c0 ≤ 8) (h1 : c1 ≤ 8) (h2 : c2 ≤ 8) : (t0 + t1) / 65536 = t2 + t3 := by omega
theorem swar3 {l0 l1 l2 l3 t4 t5 t6 t7 : Nat} (h0 : l0 < 1000000000) (h1 : l1 < 1000000000) (h2 : l2 < 1000000000) (h3 : l3 < 1000000000) : ((l0 + 4294967296 * t4) + (l1 + 4294967296 * t5) + ((l2 + 4294967296 * t6) + (l3 + 4294967296 * t7))) / 4294967296 = t4 + t5 + (t6 + t7) := by omega
theorem swar4 {c0 c1 c2 c3 t0 t1 t2 t3 t4 : Nat} (e0 : t0 = c0 + 256 * t1) (e1 : t1 = c1 + 256 * t2) (e2 : t2 = c2 + 256 * t3) (e3 : t3 = c3 + 256 * t4) : t0 = (c0 + 256 * c1 + 65536 * c2 + 16777216 * c3) + 4294967296 * t4 := by omega
theorem swar5 {c0 c1 c2 c3 : Nat} (h0 : c0 ≤ 8) (h1 : c1 ≤ 8) (h2 : c2 ≤ 8) (h3 : c3 ≤ 8) : c0 + 256 * c1 + 65536 * c2 + 16777216 * c3 < 1000000000 := by omega
theorem swar6 {c0 c1 c2 c3 c4 c5 c6 c7 u0 u1 u2 u3 u4 u5 u6 u7 : Nat} (h0 : c0 ≤ 8) (h1 : c1 ≤ 8) (h2 : c2 ≤ 8) (h3 : c3 ≤ 8) (h4 : c4 ≤ 8) (h5 : c5 ≤ 8) (h6 : c6 ≤ 8) (h7 : c7 ≤ 8) :
    (((c0 + 256 * u0) + (c1 + 256 * u1) + ((c2 + 256 * u2) + (c3 + 256 * u3))) + ((c4 + 256 * u4) + (c5 + 256 * u5) + ((c6 + 256 * u6) + (c7 + 256 * u7)))) % 128 = c0 + (c1 + (c2 + (c3 + (c4 + (c5 + (c6 + c7)))))) := by
  have e : ((c0 + 256 * u0) + (c1 + 256 * u1) + ((c2 + 256 * u2) + (c3 + 256 * u3))) + ((c4 + 256 * u4) + (c5 + 256 * u5) + ((c6 + 256 * u6) + (c7 + 256 * u7))) = (c0 + (c1 + (c2 + (c3 + (c4 + (c5 + (c6 + c7))))))) + 128 * (2 * (u0 + u1 + u2 + u3 + u4 + u5 + u6 + u7)) := by omega
  rw [e, Nat.add_mul_mod_self_left]
  exact Nat.mod_eq_of_lt (by omega)
theorem swar {c0 c1 c2 c3 c4 c5 c6 c7 t0 t1 t2 t3 t4 t5 t6 t7 : Nat} (h0 : c0 ≤ 8) (h1 : c1 ≤ 8) (h2 : c2 ≤ 8) (h3 : c3 ≤ 8) (h4 : c4 ≤ 8) (h5 : c5 ≤ 8) (h6 : c6 ≤ 8) (h7 : c7 ≤ 8)
    (e0 : t0 = c0 + 256 * t1) (e1 : t1 = c1 + 256 * t2) (e2 : t2 = c2 + 256 * t3) (e3 : t3 = c3 + 256 * t4) (e4 : t4 = c4 + 256 * t5) (e5 : t5 = c5 + 256 * t6) (e6 : t6 = c6 + 256 * t7) (e7 : t7 = c7 + 256 * 0) :
    ((((t0 + t0 / 256) + (t0 + t0 / 256) / 65536) + ((t0 + t0 / 256) + (t0 + t0 / 256) / 65536) / 4294967296)) % 128 = c0 + (c1 + (c2 + (c3 + (c4 + (c5 + (c6 + c7)))))) := by
  rw [swar1 e0 h0, swar2 e0 e1 e2 h0 h1 h2]
  have q : (t0 + t1 + (t2 + t3)) / 4294967296 = t4 + t5 + (t6 + t7) := by
    have f0 := swar4 e0 e1 e2 e3
    have f1 := swar4 e1 e2 e3 e4
    have f2 := swar4 e2 e3 e4 e5
    have f3 := swar4 e3 e4 e5 e6
    have := swar3 (t4 := t4) (t5 := t5) (t6 := t6) (t7 := t7) (swar5 h0 h1 h2 h3) (swar5 h1 h2 h3 h4) (swar5 h2 h3 h4 h5) (swar5 h3 h4 h5 h6)
    rw [← f0, ← f1, ← f2, ← f3] at this
    exact this
  rw [q]
  have := swar6 (u0 := t1) (u1 := t2) (u2 := t3) (u3 := t4) (u4 := t5) (u5 := t6) (u6 := t7) (u7 := 0) h0 h1 h2 h3 h4 h5 h6 h7
  rw [← e0, ← e1, ← e2, ← e3, ← e4, ← e5, ← e6, ← e7] at this
  exact this
theorem ones_sum (x : Nat) : ((((mapB (pc 8) 8 x + mapB (pc 8) 8 x / 256) + (mapB (pc 8) 8 x + mapB (pc 8) 8 x / 256) / 65536) + ((mapB (pc 8) 8 x + mapB (pc 8) 8 x / 256) + (mapB (pc 8) 8 x + mapB (pc 8) 8 x / 256) / 65536) / 4294967296)) % 128 = pc 64 x := by
  have p7 : pc 64 x = pc 8 (x % 256) + pc 56 (x / 256) := pc_byte 7 x
  have p6 : pc 56 (x / 256) = pc 8 (x / 256 % 256) + pc 48 (x / 256 / 256) := pc_byte 6 _
  have p5 : pc 48 (x / 256 / 256) = pc 8 (x / 256 / 256 % 256) + pc 40 (x / 256 / 256 / 256) := pc_byte 5 _
  have p4 : pc 40 (x / 256 / 256 / 256) = pc 8 (x / 256 / 256 / 256 % 256) + pc 32 (x / 256 / 256 / 256 / 256) := pc_byte 4 _
  have p3 : pc 32 (x / 256 / 256 / 256 / 256) = pc 8 (x / 256 / 256 / 256 / 256 % 256) + pc 24 (x / 256 / 256 / 256 / 256 / 256) := pc_byte 3 _
  have p2 : pc 24 (x / 256 / 256 / 256 / 256 / 256) = pc 8 (x / 256 / 256 / 256 / 256 / 256 % 256) + pc 16 (x / 256 / 256 / 256 / 256 / 256 / 256) := pc_byte 2 _
  have p1 : pc 16 (x / 256 / 256 / 256 / 256 / 256 / 256) = pc 8 (x / 256 / 256 / 256 / 256 / 256 / 256 % 256) + pc 8 (x / 256 / 256 / 256 / 256 / 256 / 256 / 256) := pc_byte 1 _
  have p0 : pc 8 (x / 256 / 256 / 256 / 256 / 256 / 256 / 256) = pc 8 (x / 256 / 256 / 256 / 256 / 256 / 256 / 256 % 256) := pc_byte 0 _
  rw [p7, p6, p5, p4, p3, p2, p1, p0]
  exact swar (pc8_le _) (pc8_le _) (pc8_le _) (pc8_le _) (pc8_le _) (pc8_le _) (pc8_le _) (pc8_le _) (mapB.eq_2 _ _ _) (mapB.eq_2 _ _ _) (mapB.eq_2 _ _ _) (mapB.eq_2 _ _ _) (mapB.eq_2 _ _ _) (mapB.eq_2 _ _ _) (mapB.eq_2 _ _ _) (mapB.eq_2 _ _ _)

end Go.Proofs.YtklmaeefnmcmlaaDoor.C
