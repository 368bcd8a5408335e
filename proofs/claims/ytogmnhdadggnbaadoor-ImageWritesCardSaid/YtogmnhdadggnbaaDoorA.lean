/-
  Parts of the proofs of this seat: what the functions compute. No condition beyond what each theorem states.
-/
import Derived.Test.YtogmnhdadggnbaaDoorF
import Derived.Test.YtogmnhdadggnbaaDoorRK
set_option linter.unusedVariables false
set_option linter.unusedSimpArgs false
set_option maxRecDepth 100000
namespace Go.Proofs.YtogmnhdadggnbaaDoor.C
open Go Go.RowKit Go.Proofs.YtogmnhdadggnbaaDoor Go.Proofs.YtogmnhdadggnbaaDoor.Sh Go.Proofs.YtogmnhdadggnbaaDoor.F Go.Proofs.YtogmnhdadggnbaaDoor.R

/-! ### lists of whole numbers -/
def nums (k : IntKind) (xs : List Int) : List Value := xs.map fun x => .int k x
theorem nums_len (k : IntKind) (xs : List Int) : (nums k xs).length = xs.length := by simp [nums]
theorem nums_at {k : IntKind} {xs : List Int} {j : Nat} {x : Int} (h : xs[j]? = some x) : (nums k xs)[j]? = some (.int k x) := by simp [nums, h]
theorem nums_one (k : IntKind) (xs : List Int) : ∀ u ∈ nums k xs, u.oneCell' = true := fun u hu => by
  obtain ⟨x, _, rfl⟩ := List.mem_map.1 hu
  rfl
theorem nums_app (k : IntKind) (xs ys : List Int) : nums k (xs ++ ys) = nums k xs ++ nums k ys := by simp [nums]
theorem take_snoc {α : Type} {xs : List α} {k : Nat} {x : α} (h : xs[k]? = some x) : xs.take (k + 1) = xs.take k ++ [x] := by
  obtain ⟨hk, rfl⟩ := List.getElem?_eq_some_iff.1 h
  rw [List.take_succ_eq_append_getElem hk]
/-! ### bits and bytes -/
def U64 (h : Int) : Prop := 0 ≤ h ∧ h ≤ 18446744073709551615
theorem wf_i64 {n : Int} (h : (Lit.int .i64 n).wf = true) : -9223372036854775808 ≤ n ∧ n ≤ 9223372036854775807 := by
  simp [Lit.wf, IntKind.min, IntKind.max, IntKind.bits, IntKind.signed] at h
  omega
theorem wf_u64 {n : Int} (h : (Lit.int .u64 n).wf = true) : U64 n := by
  simp [Lit.wf, IntKind.min, IntKind.max, IntKind.bits, IntKind.signed] at h
  exact ⟨by omega, by omega⟩
theorem wf_u8 {n : Int} (h : (Lit.int .u8 n).wf = true) : 0 ≤ n ∧ n ≤ 255 := by
  simp [Lit.wf, IntKind.min, IntKind.max, IntKind.bits, IntKind.signed] at h
  omega
def Bytes (bs : List Int) : Prop := ∀ x ∈ bs, 0 ≤ x ∧ x ≤ 255
theorem ofInt64 (x : Nat) : BitVec.ofInt (IntKind.u64).bits (x : Int) = BitVec.ofNat 64 x := BitVec.ofInt_natCast 64 x
theorem ofInt8 (x : Nat) : BitVec.ofInt (IntKind.u8).bits (x : Int) = BitVec.ofNat 8 x := BitVec.ofInt_natCast 8 x
/-- A number is put above the bits of a lesser one. -/
theorem or_shl {a x s : Nat} (ha : a < 2 ^ s) (hs : s < 64) (hx : x * 2 ^ s + a < 2 ^ 64) : ibits .or .u64 (a : Int) (ishl .u64 (x : Int) (s : Int)) = ((a + x * 2 ^ s : Nat) : Int) := by
  have e3 : ishl .u64 (x : Int) (s : Int) = ((x <<< s : Nat) : Int) := by
    unfold ishl
    have h1 : min (s : Int).toNat (IntKind.u64).bits = s := by
      have : (IntKind.u64).bits = 64 := rfl
      rw [this, Int.toNat_natCast]; omega
    rw [h1, Nat.shiftLeft_eq]
    have : ((x : Int) * 2 ^ s) = ((x * 2 ^ s : Nat) : Int) := by push_cast; rfl
    rw [this, wrapu64_in (by omega) (by omega)]
  rw [e3]
  unfold ibits
  simp only []
  rw [ofInt64, ofInt64]
  have hb : x <<< s < 2 ^ 64 := by rw [Nat.shiftLeft_eq]; omega
  have h3 : (BitVec.ofNat 64 a ||| BitVec.ofNat 64 (x <<< s)).toNat = a + x * 2 ^ s := by
    rw [BitVec.toNat_or, BitVec.toNat_ofNat, BitVec.toNat_ofNat, Nat.mod_eq_of_lt hb, Nat.mod_eq_of_lt (by omega), Nat.or_comm, ← Nat.shiftLeft_add_eq_or_of_lt ha, Nat.shiftLeft_eq]
    omega
  have h4 : IntKind.wrap .u64 ((a + x * 2 ^ s : Nat) : Int) = ((a + x * 2 ^ s : Nat) : Int) := wrapu64_in (by omega) (by omega)
  refine Eq.trans ?_ h4
  congr 1
  exact congrArg Nat.cast h3
theorem shr_eq {a : Int} (ha : 0 ≤ a) {s : Nat} (hs : s ≤ 64) : ishr .u64 a (s : Int) = a / ((2 ^ s : Nat) : Int) := by
  unfold ishr
  have h1 : min (s : Int).toNat (IntKind.u64).bits = s := by
    have : (IntKind.u64).bits = 64 := rfl
    rw [this, Int.toNat_natCast]; omega
  rw [h1]
  have : ((2 : Int) ^ s) = ((2 ^ s : Nat) : Int) := by push_cast; rfl
  rw [this]
  exact Int.fdiv_eq_ediv_of_nonneg a (Int.natCast_nonneg _)
theorem and127 {c : Int} (h0 : 0 ≤ c) (h1 : c ≤ 255) : ibits .and .u8 c 127 = c % 128 := by
  obtain ⟨x, rfl⟩ := Int.eq_ofNat_of_zero_le h0
  unfold ibits
  simp only []
  rw [ofInt8, show (127 : Int) = ((127 : Nat) : Int) from rfl, ofInt8]
  have h3 : (BitVec.ofNat 8 x &&& BitVec.ofNat 8 127).toNat = x % 128 := by
    rw [BitVec.toNat_and, BitVec.toNat_ofNat, BitVec.toNat_ofNat, Nat.mod_eq_of_lt (show x < 2 ^ 8 by omega)]
    exact Nat.and_two_pow_sub_one_eq_mod x 7
  have h4 : IntKind.wrap .u8 ((x % 128 : Nat) : Int) = (x : Int) % 128 := by rw [wrapu8_eq]; omega
  rw [← h4]
  congr 1
  exact congrArg Nat.cast h3
theorem or128 {c : Int} (h0 : 0 ≤ c) (h1 : c ≤ 255) : ibits .or .u8 c 128 = c % 128 + 128 := by
  obtain ⟨x, rfl⟩ := Int.eq_ofNat_of_zero_le h0
  unfold ibits
  simp only []
  rw [ofInt8, show (128 : Int) = ((128 : Nat) : Int) from rfl, ofInt8]
  have hx : ∀ y : Fin 256, (BitVec.ofNat 8 y.val ||| BitVec.ofNat 8 128).toNat = y.val % 128 + 128 := by decide
  have h3 := hx ⟨x, by omega⟩
  simp only at h3
  have h4 : IntKind.wrap .u8 ((x % 128 + 128 : Nat) : Int) = (x : Int) % 128 + 128 := by rw [wrapu8_eq]; omega
  have h5 : ((128 : Nat) : Int) = 128 := rfl
  rw [h5, ← h4]
  congr 1
  exact congrArg Nat.cast h3
/-! bytes in memory -/
theorem byte_info : (Pg.info? Ty.uint8).map (fun i => (i.zero, i.size, i.bytes)) = some (some (.int .u8 0), 1, 1) := by kernel_rfl
theorem bytes_under : Pg.underlying Ty.sl_uint8 = some (.slice Ty.uint8) := by kernel_rfl
theorem app_bytes {w : World} {base : Nat} {v : Value} {n : Nat} {l : List Int} (hown : w.ownsRow base Ty.uint8 1 v n (nums .u8 l)) {B : Option Addr} {m c : Nat} {r : List Int} (hl : m = r.length) (hnews : Cs w B (nums .u8 r))
    (hbytes : n + m ≤ 140737488355328) (hbase : base ≤ w.heap.size) {K : Value → World → Prop}
    (h : ∀ A' c' w', w'.ownsRow base Ty.uint8 1 (.slice A' (n + m) c') (n + m) (nums .u8 (l ++ r)) → Mv (fun g => v.ownBlock = some g) w w' (fun g => (Value.slice A' (n + m) c').ownBlock = some g) → K (.slice A' (n + m) c') w') :
    SemJ Pg (Builtin.append_ #[Ty.sl_uint8, Ty.sl_uint8] Ty.sl_uint8 #[v, .slice B m c]) K w :=
  app_own base bytes_under byte_info rfl (by decide) hown (by rw [nums_len, hl]; omega) hnews (nums_one .u8 r) (by omega) (by decide) hbase fun A' c' w' h1 h2 => h A' c' w' (by rw [nums_app]; exact h1) h2
theorem bytes_u8 {w : World} {A : Option Addr} {bs : List Int} (h : Cs w A (nums .u8 bs)) (hb : Bytes bs) : bytesAt w A bs.length (bs.map fun x => UInt8.ofNat x.toNat) := by
  refine ⟨by simp, fun j b hj => ?_⟩
  rw [List.getElem?_map, Option.map_eq_some_iff] at hj
  obtain ⟨x, hx, rfl⟩ := hj
  obtain ⟨a, e, hc⟩ := h.at (nums_at hx)
  refine ⟨a, e, ?_⟩
  have hr := hb x (List.mem_of_getElem? hx)
  have : ((UInt8.ofNat x.toNat).toNat : Int) = x := by
    rw [UInt8.toNat_ofNat']
    omega
  rw [this]
  exact hc
/-- make([]byte, n): n zeros. -/
theorem made_bytes (n : Nat) : madeCells #[.int .u8 0] (n * 1) = ⟨nums .u8 (List.replicate n 0)⟩ := by
  rw [← Array.toList_inj, Nat.mul_one, toList_madeCells_one]
  simp [nums]
theorem cst (k : Nat) (h : (k : Int) + 1 ≤ 9223372036854775807) : IntKind.wrap .i64 ((k : Int) + 1) = ((k + 1 : Nat) : Int) := by rw [wrap64_in (by omega) (by omega)]; rfl
theorem held {w : World} {a : Addr} {v : Value} (hc : w.cell? a = some v) : ∀ w' : World, w'.heap = w.heap → w'.cell? a = some v := fun w' e => by
  unfold World.cell? at hc ⊢
  rw [e]; exact hc
/-! ### numbers of a fixed width -/
theorem ref01_Same_c {w : World} {A B : Option Addr} {n n' c d : Nat} {xs : List Int} {K : Value → World → Prop} (hx : Cs w A (nums .u8 xs)) (hy : Cs w B (nums .u8 xs)) (hn : n = xs.length) (hn' : n' = xs.length) (hb : Bytes xs) (hK : K (.bool true) w) : CallsE Pg ref01_Same.N #[.slice A n c, .slice B n' d] w K := by
  subst hn
  subst hn'
  refine ref01_Same.ok ⟨_, bytes_u8 hx hb, _, bytes_u8 hy hb, ?_⟩
  rw [beq_self_eq_true]
  exact hK
def widthV (n : Int) : Nat := if n < 0 then 0 else if 8 < n then 8 else n.toNat
theorem widthV_le (n : Int) : widthV n ≤ 8 := by unfold widthV; (repeat' split) <;> omega
def putB (n : Int) : Nat → List Int
  | 0 => []
  | w + 1 => putB n w ++ [n / ((256 ^ w : Nat) : Int) % 256]
theorem putB_len (n : Int) : ∀ w, (putB n w).length = w
  | 0 => rfl
  | w + 1 => by simp [putB, putB_len n w]
theorem putB_bytes (n : Int) : ∀ w, Bytes (putB n w)
  | 0 => fun x hx => by cases hx
  | w + 1 => fun x hx => by
    rcases List.mem_append.1 hx with hx | hx
    · exact putB_bytes n w x hx
    · rw [List.mem_singleton.1 hx]; omega
/-! the code's: eight bytes, filled from above -/
/-- The bytes from number j on stand. -/
def PutInv (n : Int) (wd j : Nat) (cs : List Value) : Prop := cs.length = 8 ∧ ∀ i, j ≤ i → i < wd → cs[i]? = some (.int .u8 (n / ((256 ^ i : Nat) : Int) % 256))
theorem putB_at {n : Int} : ∀ {wd i : Nat}, i < wd → (putB n wd)[i]? = some (n / ((256 ^ i : Nat) : Int) % 256)
  | 0, i, h => by omega
  | wd + 1, i, h => by
    unfold putB
    by_cases e : i = wd
    · subst e
      rw [List.getElem?_append_right (by rw [putB_len]; omega), putB_len]
      simp
    · rw [List.getElem?_append_left (by rw [putB_len]; omega)]
      exact putB_at (by omega)
theorem PutInv.done {n : Int} {wd : Nat} {cs : List Value} (h : PutInv n wd 0 cs) (hw : wd ≤ 8) : cs.take wd = nums .u8 (putB n wd) := by
  apply List.ext_getElem?
  intro i
  rw [List.getElem?_take]
  by_cases hi : i < wd
  · rw [if_pos hi, h.2 i (by omega) hi, nums_at (putB_at hi)]
  · rw [if_neg hi, List.getElem?_eq_none (by rw [nums_len, putB_len]; omega)]
theorem byte_of {n : Int} (hn : 0 ≤ n) (i s : Nat) (hs : s = 8 * i) (h8 : i < 8) : IntKind.wrap .u8 (ishr .u64 n (s : Int)) = n / ((256 ^ i : Nat) : Int) % 256 := by
  rw [shr_eq hn (by omega), wrapu8_eq, hs, Nat.pow_mul]
/-! the number of bytes -/
def getB : List Int → Int
  | [] => 0
  | b :: bs => b + 256 * getB bs
def getV (bs : List Int) : Int := getB (bs.take 8)
theorem getB_range : ∀ {bs : List Int}, Bytes bs → 0 ≤ getB bs ∧ getB bs < ((256 ^ bs.length : Nat) : Int)
  | [], _ => by simp [getB]
  | b :: bs, h => by
    have ih := getB_range (bs := bs) (fun x hx => h x (List.mem_cons_of_mem _ hx))
    have hb := h b (by simp)
    have e : ((256 ^ (b :: bs).length : Nat) : Int) = 256 * ((256 ^ bs.length : Nat) : Int) := by rw [List.length_cons, Nat.pow_succ]; push_cast; omega
    rw [e]
    unfold getB
    omega
theorem getB_snoc : ∀ (bs : List Int) (b : Int), getB (bs ++ [b]) = getB bs + ((256 ^ bs.length : Nat) : Int) * b
  | [], b => by simp [getB]
  | x :: bs, b => by
    rw [List.cons_append]
    unfold getB
    rw [getB_snoc bs b, List.length_cons, Nat.pow_succ]
    push_cast
    rw [Int.mul_add]
    have : (256 : Int) ^ bs.length * 256 * b = 256 * (256 ^ bs.length * b) := by rw [Int.mul_comm _ (256 : Int), Int.mul_assoc]
    rw [this]
    omega
theorem Bytes.take {bs : List Int} (h : Bytes bs) (k : Nat) : Bytes (bs.take k) := fun x hx => h x (List.mem_of_mem_take hx)
theorem Bytes.drop {bs : List Int} (h : Bytes bs) (k : Nat) : Bytes (bs.drop k) := fun x hx => h x (List.mem_of_mem_drop hx)
theorem getV_u64 {bs : List Int} (h : Bytes bs) : U64 (getV bs) := by
  have := getB_range (h.take 8)
  have hl : (bs.take 8).length ≤ 8 := by rw [List.length_take]; omega
  have : (256 ^ (bs.take 8).length : Nat) ≤ 256 ^ 8 := Nat.pow_le_pow_right (by decide) hl
  unfold getV U64
  omega
theorem getB_split (bs : List Int) (k : Nat) (x : Int) (h : bs[k]? = some x) : getB (bs.drop k) = x + 256 * getB (bs.drop (k + 1)) := by
  obtain ⟨hk, rfl⟩ := List.getElem?_eq_some_iff.1 h
  rw [List.drop_eq_getElem_cons hk]
  rfl
/-! ### numbers as long as they must be -/
def varF : Nat → Int → List Int
  | 0, n => [n]
  | f + 1, n => if n < 128 then [n] else (n % 128 + 128) :: varF f (n / 128)
def varB (n : Int) : List Int := varF 9 n
theorem varF_len : ∀ (f : Nat) (n : Int), 1 ≤ (varF f n).length ∧ (varF f n).length ≤ f + 1
  | 0, n => by simp [varF]
  | f + 1, n => by
    have := varF_len f (n / 128)
    unfold varF
    split <;> simp <;> omega
theorem varF_bytes : ∀ (f : Nat) (n : Int), 0 ≤ n → n < ((128 ^ (f + 1) : Nat) : Int) → Bytes (varF f n)
  | 0, n, h0, h1 => fun x hx => by
    simp [varF] at hx
    omega
  | f + 1, n, h0, h1 => by
    unfold varF
    split
    · intro x hx
      rw [List.mem_singleton.1 hx]; omega
    · have e : ((128 ^ (f + 1 + 1) : Nat) : Int) = 128 * ((128 ^ (f + 1) : Nat) : Int) := by rw [Nat.pow_succ 128 (f + 1)]; push_cast; omega
      have ih := varF_bytes f (n / 128) (by omega) (by omega)
      intro x hx
      rcases List.mem_cons.1 hx with rfl | hx
      · omega
      · exact ih x hx
theorem u64_10 {n : Int} (h : U64 n) : n < ((128 ^ (9 + 1) : Nat) : Int) := by unfold U64 at h; omega
theorem varB_bytes {n : Int} (h : U64 n) : Bytes (varB n) := varF_bytes 9 n h.1 (u64_10 h)
theorem shr7 {n : Int} (h : 0 ≤ n) : ishr .u64 n 7 = n / 128 := shr_eq h (s := 7) (by decide)
theorem pow_step (f : Nat) : ((128 ^ (f + 1 + 1) : Nat) : Int) = 128 * ((128 ^ (f + 1) : Nat) : Int) := by rw [Nat.pow_succ 128 (f + 1)]; push_cast; omega
theorem var_loop {w0 : World} {N : Int} {K : Value → World → Prop} (hK : ∀ A c w', w'.ownsRow w0.heap.size Ty.uint8 1 (.slice A (varB N).length c) (varB N).length (nums .u8 (varB N)) → Below w0.heap.size w0 w' → K (.slice A (varB N).length c) w') :
    ∀ (f : Nat) (n : Int) (acc : List Int) (w : World) (A : Option Addr) (c : Nat), U64 n → n < ((128 ^ (f + 1) : Nat) : Int) → acc ++ varF f n = varB N → Below w0.heap.size w0 w → w.ownsRow w0.heap.size Ty.uint8 1 (.slice A acc.length c) acc.length (nums .u8 acc) → num_Var.l0 K (f + 1) n A acc.length c w := by
  have fin : ∀ (n : Int) (acc : List Int) (w : World) (A : Option Addr) (c : Nat), 0 ≤ n → n < 128 → acc ++ [n] = varB N → Below w0.heap.size w0 w → w.ownsRow w0.heap.size Ty.uint8 1 (.slice A acc.length c) acc.length (nums .u8 acc) → num_Var.p2 K n A acc.length c w := fun n acc w A c h0 h1 he hb ho => by
    refine wlet_intro fun w1 h1' => ?_
    have e : IntKind.wrap .u8 n = n := by rw [wrapu8_eq]; omega
    rw [e] at h1'
    have hal : Below w.heap.size w w1 := by rw [h1']; exact (Below.refl _ _).alloc (Nat.le_refl _) _
    have hz : Blk w1 w.heap.size Ty.uint8 (nums .u8 [n]) := by rw [h1']; exact Blk.new w Ty.uint8 _
    clear h1'
    have b1 := hb.trans (hal.mono hb.size)
    have ho1 := own_below_kp ho hal
    have hlen : acc.length ≤ 10 := by have := congrArg List.length he; have := varF_len 9 N; unfold varB at *; simp at *; omega
    refine app_bytes (m := 1) ho1 rfl (Cs.of_blk0 hz) (by omega) b1.size fun A' c' w2 ho2 hm2 => ⟨_, _, _, rfl, ?_⟩
    have el : acc.length + 1 = (varB N).length := by rw [← he]; simp
    rw [he, el] at ho2
    rw [el]
    exact hK A' c' w2 ho2 (b1.trans (hm2.kp.below b1.size fun i hi e => by have := (own_lt ho1 e).1; omega))
  intro f
  induction f with
  | zero =>
    intro n acc w A c hn h1 he hb ho
    rw [num_Var.l0_succ]
    exact cond_dec (fun h => by simp at h1; omega) (fun _ => fin n acc w A c hn.1 (by simpa using h1) he hb ho)
  | succ f ih =>
    intro n acc w A c hn h1 he hb ho
    rw [num_Var.l0_succ]
    refine cond_dec (fun h => wlet_intro fun w1 h1' => ?_) (fun h => ?_)
    · have e : ibits .or .u8 (IntKind.wrap .u8 n) 128 = n % 128 + 128 := by rw [wrapu8_eq, or128 (by omega) (by omega)]; omega
      rw [e] at h1'
      have hal : Below w.heap.size w w1 := by rw [h1']; exact (Below.refl _ _).alloc (Nat.le_refl _) _
      have hz : Blk w1 w.heap.size Ty.uint8 (nums .u8 [n % 128 + 128]) := by rw [h1']; exact Blk.new w Ty.uint8 _
      clear h1'
      have b1 := hb.trans (hal.mono hb.size)
      have ho1 := own_below_kp ho hal
      rw [varF, if_neg (by omega)] at he
      have hlen : acc.length ≤ 10 := by have := congrArg List.length he; have := varF_len 9 N; unfold varB at *; simp at *; omega
      refine app_bytes (m := 1) ho1 rfl (Cs.of_blk0 hz) (by omega) b1.size fun A' c' w2 ho2 hm2 => ⟨_, _, _, rfl, by decide, ?_⟩
      rw [shr7 hn.1]
      have hp := pow_step f
      have el : acc.length + 1 = (acc ++ [n % 128 + 128]).length := by simp
      rw [el] at ho2 ⊢
      refine ih (n / 128) _ w2 A' c' ⟨by have := hn.1; omega, by have := hn.2; omega⟩ (by omega) (by rw [List.append_assoc]; exact he) (b1.trans (hm2.kp.below b1.size fun i hi e => by have := (own_lt ho1 e).1; omega)) ho2
    · rw [varF, if_pos (by omega)] at he
      exact fin n acc w A c hn.1 (by omega) he hb ho
theorem num_Var_c {n : Int} {K : Value → World → Prop} {w : World} (hn : U64 n) (hK : ∀ A c w', w'.ownsRow w.heap.size Ty.uint8 1 (.slice A (varB n).length c) (varB n).length (nums .u8 (varB n)) → Below w.heap.size w w' → K (.slice A (varB n).length c) w') : CallsE Pg num_Var.N #[.int .u64 n] w K :=
  num_Var.ok ⟨10, var_loop hK 9 n [] w none 0 hn (u64_10 hn) rfl (Below.refl _ _) (World.ownsRow_nil _ _ _ _)⟩
theorem rvar_loop {w0 : World} {N : Int} {K : Value → World → Prop} (hK : ∀ A c w', w'.ownsRow w0.heap.size Ty.uint8 1 (.slice A (varB N).length c) (varB N).length (nums .u8 (varB N)) → Below w0.heap.size w0 w' → K (.slice A (varB N).length c) w') :
    ∀ (f : Nat) (n : Int) (acc : List Int) (w : World) (A : Option Addr) (c : Nat), U64 n → n < ((128 ^ (f + 1) : Nat) : Int) → acc ++ varF f n = varB N → Below w0.heap.size w0 w → w.ownsRow w0.heap.size Ty.uint8 1 (.slice A acc.length c) acc.length (nums .u8 acc) → ref01_Var.l0 K (f + 1) n A acc.length c w := by
  have fin : ∀ (n : Int) (acc : List Int) (w : World) (A : Option Addr) (c : Nat), 0 ≤ n → n < 128 → acc ++ [n] = varB N → Below w0.heap.size w0 w → w.ownsRow w0.heap.size Ty.uint8 1 (.slice A acc.length c) acc.length (nums .u8 acc) → ref01_Var.p2 K n A acc.length c w := fun n acc w A c h0 h1 he hb ho => by
    refine wlet_intro fun w1 h1' => ?_
    have e : IntKind.wrap .u8 n = n := by rw [wrapu8_eq]; omega
    rw [e] at h1'
    have hal : Below w.heap.size w w1 := by rw [h1']; exact (Below.refl _ _).alloc (Nat.le_refl _) _
    have hz : Blk w1 w.heap.size Ty.uint8 (nums .u8 [n]) := by rw [h1']; exact Blk.new w Ty.uint8 _
    clear h1'
    have b1 := hb.trans (hal.mono hb.size)
    have ho1 := own_below_kp ho hal
    have hlen : acc.length ≤ 10 := by have := congrArg List.length he; have := varF_len 9 N; unfold varB at *; simp at *; omega
    refine app_bytes (m := 1) ho1 rfl (Cs.of_blk0 hz) (by omega) b1.size fun A' c' w2 ho2 hm2 => ⟨_, _, _, rfl, ?_⟩
    have el : acc.length + 1 = (varB N).length := by rw [← he]; simp
    rw [he, el] at ho2
    rw [el]
    exact hK A' c' w2 ho2 (b1.trans (hm2.kp.below b1.size fun i hi e => by have := (own_lt ho1 e).1; omega))
  intro f
  induction f with
  | zero =>
    intro n acc w A c hn h1 he hb ho
    rw [ref01_Var.l0_succ]
    exact cond_dec (fun h => by simp at h1; omega) (fun _ => fin n acc w A c hn.1 (by simpa using h1) he hb ho)
  | succ f ih =>
    intro n acc w A c hn h1 he hb ho
    rw [ref01_Var.l0_succ]
    refine cond_dec (fun h => ⟨by decide, wlet_intro fun w1 h1' => ?_⟩) (fun h => ?_)
    · have e : IntKind.wrap .u8 (IntKind.wrap .u8 (Int.tmod n 128) + 128) = n % 128 + 128 := by rw [Int.tmod_eq_emod_of_nonneg hn.1, wrapu8_eq, wrapu8_eq]; omega
      rw [e] at h1'
      have hal : Below w.heap.size w w1 := by rw [h1']; exact (Below.refl _ _).alloc (Nat.le_refl _) _
      have hz : Blk w1 w.heap.size Ty.uint8 (nums .u8 [n % 128 + 128]) := by rw [h1']; exact Blk.new w Ty.uint8 _
      clear h1'
      have b1 := hb.trans (hal.mono hb.size)
      have ho1 := own_below_kp ho hal
      rw [varF, if_neg (by omega)] at he
      have hlen : acc.length ≤ 10 := by have := congrArg List.length he; have := varF_len 9 N; unfold varB at *; simp at *; omega
      refine app_bytes (m := 1) ho1 rfl (Cs.of_blk0 hz) (by omega) b1.size fun A' c' w2 ho2 hm2 => ⟨_, _, _, rfl, by decide, ?_⟩
      have e2 : IntKind.wrap .u64 (Int.tdiv n 128) = n / 128 := by rw [Int.tdiv_eq_ediv_of_nonneg hn.1]; exact wrapu64_in (by have := hn.1; omega) (by have := hn.2; omega)
      rw [e2]
      have hp := pow_step f
      have el : acc.length + 1 = (acc ++ [n % 128 + 128]).length := by simp
      rw [el] at ho2 ⊢
      refine ih (n / 128) _ w2 A' c' ⟨by have := hn.1; omega, by have := hn.2; omega⟩ (by omega) (by rw [List.append_assoc]; exact he) (b1.trans (hm2.kp.below b1.size fun i hi e => by have := (own_lt ho1 e).1; omega)) ho2
    · rw [varF, if_pos (by omega)] at he
      exact fin n acc w A c hn.1 (by omega) he hb ho
theorem ref01_Var_c {n : Int} {K : Value → World → Prop} {w : World} (hn : U64 n) (hK : ∀ A c w', w'.ownsRow w.heap.size Ty.uint8 1 (.slice A (varB n).length c) (varB n).length (nums .u8 (varB n)) → Below w.heap.size w w' → K (.slice A (varB n).length c) w') : CallsE Pg ref01_Var.N #[.int .u64 n] w K :=
  ref01_Var.ok ⟨10, rvar_loop hK 9 n [] w none 0 hn (u64_10 hn) rfl (Below.refl _ _) (World.ownsRow_nil _ _ _ _)⟩
/-! ### readers -/
def RdV (ty : TypeId) (w : World) (b : Nat) (p : Option Addr) (left : List Int) (err : Int) (F : Nat → Prop) : Prop :=
  ∃ t A c, p = some ⟨t, 0, none⟩ ∧ b ≤ t ∧ Blk w t ty [.slice A left.length c, .int .i64 err] ∧ left.length ≤ c ∧ Cs w A (nums .u8 left) ∧ (∀ g, A.map (·.block) = some g → b ≤ g ∧ g < w.heap.size ∧ g ≠ t) ∧ F = fun i => i = t ∨ A.map (·.block) = some i
theorem RdV.kp {ty : TypeId} {w w' : World} {b : Nat} {p : Option Addr} {left : List Int} {err : Int} {F S : Nat → Prop} (h : RdV ty w b p left err F) (k : Kp S w w') (hd : ∀ i, F i → ¬ S i) : RdV ty w' b p left err F := by
  obtain ⟨t, A, c, rfl, hbt, hB, hc, hx, hg, rfl⟩ := h
  refine ⟨t, A, c, rfl, hbt, hB.kp k (hd t (.inl rfl)), hc, hx.kp k (fun a e => hd _ (.inr (by rw [e]; rfl))), fun g e => ?_, rfl⟩
  obtain ⟨h1, h2, h3⟩ := hg g e
  exact ⟨h1, Nat.lt_of_lt_of_le h2 k.size, h3⟩
theorem RdV.lt {ty : TypeId} {w : World} {b : Nat} {p : Option Addr} {left : List Int} {err : Int} {F : Nat → Prop} (h : RdV ty w b p left err F) {i : Nat} (hi : F i) : b ≤ i ∧ i < w.heap.size := by
  obtain ⟨t, A, c, rfl, hbt, hB, hc, hx, hg, rfl⟩ := h
  rcases hi with rfl | hi
  · exact ⟨hbt, hB.lt⟩
  · exact ⟨(hg i hi).1, (hg i hi).2.1⟩
theorem RdV.below {ty : TypeId} {w w' : World} {b : Nat} {p : Option Addr} {left : List Int} {err : Int} {F : Nat → Prop} (h : RdV ty w b p left err F) (k : Below w.heap.size w w') : RdV ty w' b p left err F := h.kp (Kp.of_below k) (fun _ _ => id)
theorem RdV.there {ty : TypeId} {w : World} {b : Nat} {p : Option Addr} {left : List Int} {err : Int} {F : Nat → Prop} (h : RdV ty w b p left err F) : p.isNone = false := by obtain ⟨t, A, c, rfl, _⟩ := h; rfl
theorem slA_cs {w : World} {A : Option Addr} {cs : List Value} {k c : Nat} (h : Cs w A cs) (hk : k ≤ cs.length) (hc : cs.length ≤ c) : Cs w (slA A k c 1) (cs.drop k) := by
  unfold slA
  split
  · rw [List.drop_of_length_le (by omega)]; exact Cs.nil _ _
  · rw [Nat.mul_one]; exact h.drop k
theorem slA_blk (A : Option Addr) (k c s : Nat) : (slA A k c s).map (·.block) = A.map (·.block) := by
  unfold slA
  split
  · rfl
  · cases A with
    | none => rfl
    | some a => simp [add_block]
theorem nums_drop (k : IntKind) (xs : List Int) (n : Nat) : (nums k xs).drop n = nums k (xs.drop n) := by simp [nums]
theorem nums_take (k : IntKind) (xs : List Int) (n : Nat) : (nums k xs).take n = nums k (xs.take n) := by simp [nums]
def pt (p : Option Addr) (i : Nat) : Prop := p = Option.some ⟨i, 0, none⟩
theorem pt_of {t i : Nat} (h : pt (Option.some ⟨t, 0, none⟩) i) : i = t := by cases h; rfl
theorem RdV.pt {ty : TypeId} {w : World} {b : Nat} {p : Option Addr} {left : List Int} {err : Int} {F : Nat → Prop} (h : RdV ty w b p left err F) {i : Nat} (hi : pt p i) : F i := by
  obtain ⟨t, A, c, rfl, hbt, hB, hc, hx, hg, rfl⟩ := h
  exact .inl (pt_of hi)
/-- The fault is set. -/
theorem RdV.fail {ty : TypeId} {w : World} {b : Nat} {p : Option Addr} {left : List Int} {err e : Int} {F : Nat → Prop} {Q : World → Prop} (h : RdV ty w b p left err F) (hQ : ∀ w', RdV ty w' b p left e F → Kp (C.pt p) w w' → Q w') :
    ∃ a, p = some a ∧ canStore w (a.add 1) ∧ wlet (w.setCell (a.add 1) (.int .i64 e)) Q := by
  obtain ⟨t, A, c, rfl, hbt, hB, hc, hx, hg, rfl⟩ := h
  refine ⟨_, rfl, hB.canStore (j := 1) (by simp), wlet_intro fun w1 h1 => ?_⟩
  have hB1 : Blk w1 t ty [.slice A left.length c, .int .i64 e] := by rw [h1]; exact hB.set 1 (.int .i64 e)
  have hk1 : Kp (· = t) w w1 := by rw [h1]; exact Kp.setCell _ _ _ rfl
  clear h1
  refine hQ w1 ⟨t, A, c, rfl, hbt, hB1, hc, hx.kp hk1 (fun a e => (hg _ (by rw [e]; rfl)).2.2), fun g e => ?_, rfl⟩ (hk1.mono fun i _ e => by subst e; rfl)
  obtain ⟨h1, h2, h3⟩ := hg g e
  exact ⟨h1, Nat.lt_of_lt_of_le h2 hk1.size, h3⟩
/-- What is left becomes less. -/
theorem RdV.cut {ty : TypeId} {w : World} {b : Nat} {p : Option Addr} {left : List Int} {err : Int} {F : Nat → Prop} {k : Nat} {Q : World → Prop} (h : RdV ty w b p left err F) (hk : k ≤ left.length) (hQ : ∀ w', RdV ty w' b p (left.drop k) err F → Kp (C.pt p) w w' → Q w') :
    ∃ a, p = some a ∧ ∃ A n c, w.cell? a = some (.slice A n c) ∧ (0 ≤ (k : Int) ∧ (k : Int) ≤ (n : Int)) ∧ ∃ a', p = some a' ∧ canStore w a' ∧ wlet (w.setCell a' (.slice (slA A (k : Int).toNat c 1) (n - (k : Int).toNat) (c - (k : Int).toNat))) Q := by
  obtain ⟨t, A, c, rfl, hbt, hB, hc, hx, hg, rfl⟩ := h
  refine ⟨_, rfl, A, left.length, c, hB.cell' (j := 0) rfl, ⟨by omega, by omega⟩, _, rfl, hB.canStore (j := 0) (by simp), ?_⟩
  rw [Int.toNat_natCast]
  refine wlet_intro fun w1 h1 => ?_
  have hB1 : Blk w1 t ty [.slice (slA A k c 1) (left.drop k).length (c - k), .int .i64 err] := by rw [h1, List.length_drop]; exact hB.set 0 _
  have hk1 : Kp (· = t) w w1 := by rw [h1]; exact Kp.setCell _ _ _ rfl
  clear h1
  have hx1 := (hx.kp hk1 (fun a e => (hg _ (by rw [e]; rfl)).2.2))
  refine hQ w1 ⟨t, slA A k c 1, c - k, rfl, hbt, hB1, by rw [List.length_drop]; omega, by rw [← nums_drop]; exact slA_cs hx1 (by rw [nums_len]; exact hk) (by rw [nums_len]; exact hc), fun g e => ?_, by rw [slA_blk]⟩ (hk1.mono fun i _ e => by subst e; rfl)
  rw [slA_blk] at e
  obtain ⟨h1, h2, h3⟩ := hg g e
  exact ⟨h1, Nat.lt_of_lt_of_le h2 hk1.size, h3⟩
def scan : Nat → Int → List Int → Int × Int × Nat
  | _, _, [] => (0, 3, 0)
  | i, acc, c :: cs => if (i = 9 ∧ 1 < c) ∨ (0 < i ∧ c = 0) then (0, 4, 0) else if c < 128 then (acc + c * ((128 ^ i : Nat) : Int), 0, i + 1) else scan (i + 1) (acc + c % 128 * ((128 ^ i : Nat) : Int)) cs
def vVal (left : List Int) (err : Int) : Int := if err ≠ 0 then 0 else (scan 0 0 left).1
def vErr (left : List Int) (err : Int) : Int := if err ≠ 0 then err else (scan 0 0 left).2.1
def vLeft (left : List Int) (err : Int) : List Int := if err ≠ 0 then left else left.drop (scan 0 0 left).2.2
theorem scan_used : ∀ (i : Nat) (acc : Int) (cs : List Int), (scan i acc cs).2.2 ≤ i + cs.length
  | i, acc, [] => by simp [scan]
  | i, acc, c :: cs => by
    have := scan_used (i + 1) (acc + c % 128 * ((128 ^ i : Nat) : Int)) cs
    unfold scan
    (repeat' split) <;> simp at * <;> omega
theorem scan_err : ∀ (i : Nat) (acc : Int) (cs : List Int), (scan i acc cs).2.1 ≠ 0 → (scan i acc cs).1 = 0
  | i, acc, [], _ => rfl
  | i, acc, c :: cs, h => by
    have ih := scan_err (i + 1) (acc + c % 128 * ((128 ^ i : Nat) : Int)) cs
    unfold scan at h ⊢
    by_cases h1 : (i = 9 ∧ 1 < c) ∨ (0 < i ∧ c = 0)
    · rw [if_pos h1]
    · rw [if_neg h1] at h ⊢
      by_cases h2 : c < 128
      · rw [if_pos h2] at h; exact absurd rfl h
      · rw [if_neg h2] at h ⊢
        exact ih h
/-- The steps of the loop, in the numbers as both count them. -/
theorem scan_step {acc c : Int} {i : Nat} (h0 : 0 ≤ acc) (h1 : acc < ((128 ^ i : Nat) : Int)) (hc0 : 0 ≤ c) (hc1 : c ≤ 255) (hi : i ≤ 8 ∨ i = 9 ∧ c ≤ 1) :
    ibits .or .u64 acc (ishl .u64 (IntKind.wrap .u64 (ibits .and .u8 c 127)) (IntKind.wrap .i64 (7 * (i : Int)))) = acc + c % 128 * ((128 ^ i : Nat) : Int) ∧ acc + c % 128 * ((128 ^ i : Nat) : Int) < ((128 ^ (i + 1) : Nat) : Int) ∧ acc + c % 128 * ((128 ^ i : Nat) : Int) < 18446744073709551616 := by
  rw [and127 hc0 hc1, wrapu64_in (x := c % 128) (by omega) (by omega), wrap64_in (x := 7 * (i : Int)) (by omega) (by omega)]
  obtain ⟨x, hx⟩ := Int.eq_ofNat_of_zero_le (show 0 ≤ c % 128 by omega)
  obtain ⟨y, rfl⟩ := Int.eq_ofNat_of_zero_le h0
  have hp : 2 ^ (7 * i) = 128 ^ i := by rw [Nat.pow_mul]
  have hy : y < 128 ^ i := by omega
  have hx2 : x ≤ 127 := by omega
  have hsum : x * 128 ^ i + y < 128 ^ (i + 1) := by
    have : x * 128 ^ i ≤ 127 * 128 ^ i := Nat.mul_le_mul_right _ hx2
    rw [Nat.pow_succ]; omega
  have hbig : x * 128 ^ i + y < 2 ^ 64 := by
    rcases hi with hi | ⟨rfl, hc⟩
    · have : 128 ^ (i + 1) ≤ 128 ^ 9 := Nat.pow_le_pow_right (by decide) (by omega)
      omega
    · have : x ≤ 1 := by omega
      have : x * 128 ^ 9 ≤ 1 * 128 ^ 9 := Nat.mul_le_mul_right _ this
      omega
  have e7 : (7 * (i : Int)) = ((7 * i : Nat) : Int) := by push_cast; rfl
  have := or_shl (a := y) (x := x) (s := 7 * i) (by rw [hp]; exact hy) (by rcases hi with hi | ⟨rfl, _⟩ <;> omega) (by rw [hp]; exact hbig)
  rw [e7, hx, this, hp]
  have e : ((y : Int) + (x : Int) * ((128 ^ i : Nat) : Int)) = ((y + x * 128 ^ i : Nat) : Int) := by push_cast; rfl
  rw [e]
  refine ⟨rfl, ?_, ?_⟩
  · have : y + x * 128 ^ i < 128 ^ (i + 1) := by omega
    exact Int.ofNat_lt.2 this
  · have : y + x * 128 ^ i < 2 ^ 64 := by omega
    have := Int.ofNat_lt.2 this
    simpa using this
theorem num_var_loop {w : World} {b : Nat} {p : Option Addr} {left : List Int} {F : Nat → Prop} {A : Option Addr} {c : Nat} {K : Value → World → Prop} (hR : RdV Ty.num_Reader w b p left 0 F) (hx : Cs w A (nums .u8 left)) (hb : Bytes left) (hl : left.length ≤ 1000000000000000)
    (hK : ∀ w', RdV Ty.num_Reader w' b p (left.drop (scan 0 0 left).2.2) (scan 0 0 left).2.1 F → Kp (C.pt p) w w' → K (.int .u64 (scan 0 0 left).1) w') : ∀ (d k : Nat) (acc : Int), k + d = 10 → 0 ≤ acc → acc < ((128 ^ k : Nat) : Int) → k ≤ left.length → scan k acc (left.drop k) = scan 0 0 left → k ≤ 9 →
    num_Reader_Var.l0 K (d + 1) p acc A left.length c left.length k w := by
  intro d
  induction d with
  | zero => intro k acc hk; omega
  | succ d ih =>
    intro k acc hk h0 h1 hkl hs hk9
    rw [num_Reader_Var.l0_succ]
    show condP (decide ((k : Int) < _)) _ _
    refine cond_dec (fun hlt => ?_) (fun hlt => ?_)
    · have hlt' : k < left.length := by omega
      have hxk : left[k]? = some left[k] := List.getElem?_eq_getElem hlt'
      obtain ⟨a, rfl, c0⟩ := hx.at (nums_at hxk)
      have hbk := hb _ (List.getElem_mem hlt')
      rw [List.drop_eq_getElem_cons hlt', scan] at hs
      refine ⟨⟨by omega, by omega⟩, a, rfl, _, c0, ?_⟩
      have bad : ((k = 9 ∧ 1 < left[k]) ∨ (0 < k ∧ left[k] = 0)) → num_Reader_Var.p8 (num_Reader_Var.l0 K (d + 1)) K p acc k left[k] (some a) left.length c left.length k true w := fun h => by
        rw [if_pos h] at hs
        refine hR.fail fun w' hR' hk' => ?_
        rw [← hs] at hK
        exact hK w' (by simpa using hR') hk'
      have good : ¬ ((k = 9 ∧ 1 < left[k]) ∨ (0 < k ∧ left[k] = 0)) → num_Reader_Var.p9 (num_Reader_Var.l0 K (d + 1)) K p acc k left[k] (some a) left.length c left.length k w := fun h => by
        rw [if_neg h] at hs
        have hi : k ≤ 8 ∨ k = 9 ∧ left[k] ≤ 1 := by omega
        obtain ⟨e1, e2, e3⟩ := scan_step h0 h1 hbk.1 hbk.2 hi
        have e7 : IntKind.wrap .i64 (7 * (k : Int)) = 7 * (k : Int) := wrap64_in (by omega) (by omega)
        refine ⟨by rw [e7]; omega, cond_dec (fun h128 => ?_) (fun h128 => ?_)⟩
        · rw [if_pos h128] at hs
          rw [e1, cst k (by omega)]
          have em : left[k] % 128 = left[k] := by omega
          rw [em]
          refine hR.cut (k := k + 1) (by omega) fun w' hR' hk' => ?_
          rw [← hs] at hK
          exact hK w' hR' hk'
        · rw [if_neg h128] at hs
          show num_Reader_Var.l0 K (d + 1) p (ibits .or .u64 acc (ishl .u64 (IntKind.wrap .u64 (ibits .and .u8 left[k] 127)) (IntKind.wrap .i64 (7 * (k : Int))))) (some a) left.length c left.length (IntKind.wrap .i64 ((k : Int) + 1)) w
          rw [e1, cst k (by omega)]
          have hpos : (0 : Int) ≤ left[k] % 128 * ((128 ^ k : Nat) : Int) := Int.mul_nonneg (by omega) (Int.natCast_nonneg _)
          exact ih (k + 1) _ (by omega) (by omega) e2 (by omega) hs (by omega)
      have later : (¬ (k = 9 ∧ 1 < left[k])) → num_Reader_Var.p7 (num_Reader_Var.l0 K (d + 1)) K p acc k left[k] (some a) left.length c left.length k w → True := fun _ _ => trivial
      have pos : ¬ (k = 9 ∧ 1 < left[k]) → condP (decide ((0 : Int) < (k : Int))) (num_Reader_Var.p8 (num_Reader_Var.l0 K (d + 1)) K p acc k left[k] (some a) left.length c left.length k (left[k] == (0 : Int)) w) (num_Reader_Var.p8 (num_Reader_Var.l0 K (d + 1)) K p acc k left[k] (some a) left.length c left.length k false w) := fun hn => by
        refine cond_dec (fun hp => ?_) (fun hp => good (by omega))
        by_cases hz : left[k] = 0
        · have : (left[k] == (0 : Int)) = true := by simpa using hz
          rw [this]; exact bad (.inr ⟨by omega, hz⟩)
        · have : (left[k] == (0 : Int)) = false := by simpa using hz
          rw [this]; exact good (by omega)
      show condP ((k : Int) == (9 : Int)) _ _
      refine cond_eq (fun h9 => cond_dec (fun hc => bad (.inl ⟨by omega, hc⟩)) (fun hc => pos (by omega))) (fun h9 => pos (by omega))
    · have : left.drop k = [] := List.drop_of_length_le (by omega)
      rw [this, scan] at hs
      refine hR.fail fun w' hR' hk' => ?_
      rw [← hs] at hK
      exact hK w' (by simpa using hR') hk'
theorem num_Reader_Var_c {w : World} {b : Nat} {p : Option Addr} {left : List Int} {err : Int} {F : Nat → Prop} {K : Value → World → Prop} (hR : RdV Ty.num_Reader w b p left err F) (hb : Bytes left) (hl : left.length ≤ 1000000000000000)
    (hK : ∀ w', RdV Ty.num_Reader w' b p (vLeft left err) (vErr left err) F → Kp (C.pt p) w w' → K (.int .u64 (vVal left err)) w') : CallsE Pg num_Reader_Var.N #[.pointer p] w K := by
  refine num_Reader_Var.ok ?_
  show condP p.isNone _ _
  rw [hR.there]
  obtain ⟨t, A, c, rfl, hbt, hB, hc, hx, hg, rfl⟩ := id hR
  refine ⟨_, rfl, _, hB.cell' (j := 1) rfl, ?_⟩
  unfold vLeft vErr vVal at hK
  by_cases he : err = 0
  · subst he
    rw [if_neg (by decide), if_neg (by decide), if_neg (by decide)] at hK
    refine ⟨_, rfl, _, _, _, hB.cell' (j := 0) rfl, 11, ?_⟩
    exact num_var_loop hR hx hb hl hK 10 0 0 rfl (by decide) (by decide) (by omega) rfl (by decide)
  · have : (err != (0 : Int)) = true := by simpa using he
    rw [this]
    rw [if_pos he, if_pos he, if_pos he] at hK
    exact hK w hR (Kp.refl _ _)
/-! ### readers, the rest -/
theorem ref_var_loop {w : World} {b : Nat} {p : Option Addr} {left : List Int} {F : Nat → Prop} {K : Value → World → Prop} (hR : RdV Ty.ref01_Reader w b p left 0 F) (hb : Bytes left) (hl : left.length ≤ 1000000000000000)
    (hK : ∀ w', RdV Ty.ref01_Reader w' b p (left.drop (scan 0 0 left).2.2) (scan 0 0 left).2.1 F → Kp (C.pt p) w w' → K (.int .u64 (scan 0 0 left).1) w') : ∀ (d k : Nat) (acc : Int), k + d = 10 → 0 ≤ acc → acc < ((128 ^ k : Nat) : Int) → k ≤ left.length → scan k acc (left.drop k) = scan 0 0 left → k ≤ 9 →
    ref01_Reader_Var.l0 K (d + 1) p acc ((128 ^ k : Nat) : Int) k w := by
  intro d
  induction d with
  | zero => intro k acc hk; omega
  | succ d ih =>
    intro k acc hk h0 h1 hkl hs hk9
    rw [ref01_Reader_Var.l0_succ]
    obtain ⟨t, A, c, rfl, hbt, hB, hc, hx, hg, rfl⟩ := id hR
    refine ⟨_, rfl, _, _, _, hB.cell' (j := 0) rfl, cond_dec (fun hle => ?_) (fun hle => ?_)⟩
    · have : left.drop k = [] := List.drop_of_length_le (by omega)
      rw [this, scan] at hs
      refine hR.fail fun w' hR' hk' => ?_
      rw [← hs] at hK
      exact hK w' (by simpa using hR') hk'
    · have hlt' : k < left.length := by omega
      have hxk : left[k]? = some left[k] := List.getElem?_eq_getElem hlt'
      obtain ⟨a, rfl, c0⟩ := hx.at (nums_at hxk)
      have hbk := hb _ (List.getElem_mem hlt')
      rw [List.drop_eq_getElem_cons hlt', scan] at hs
      refine ⟨_, rfl, _, _, _, hB.cell' (j := 0) rfl, ⟨by omega, by omega⟩, a, rfl, _, c0, ?_⟩
      have bad : ((k = 9 ∧ 1 < left[k]) ∨ (0 < k ∧ left[k] = 0)) → ref01_Reader_Var.p7 (ref01_Reader_Var.l0 K (d + 1)) K (some ⟨t, 0, none⟩) acc ((128 ^ k : Nat) : Int) k left[k] true w := fun h => by
        rw [if_pos h] at hs
        refine hR.fail fun w' hR' hk' => ?_
        rw [← hs] at hK
        exact hK w' (by simpa using hR') hk'
      have good : ¬ ((k = 9 ∧ 1 < left[k]) ∨ (0 < k ∧ left[k] = 0)) → ref01_Reader_Var.p8 (ref01_Reader_Var.l0 K (d + 1)) K (some ⟨t, 0, none⟩) acc ((128 ^ k : Nat) : Int) k left[k] w := fun h => by
        rw [if_neg h] at hs
        have hi : k ≤ 8 ∨ k = 9 ∧ left[k] ≤ 1 := by omega
        obtain ⟨_, e2, e3⟩ := scan_step h0 h1 hbk.1 hbk.2 hi
        have hpos : (0 : Int) ≤ left[k] % 128 * ((128 ^ k : Nat) : Int) := Int.mul_nonneg (by omega) (Int.natCast_nonneg _)
        have e1 : IntKind.wrap .u64 (acc + IntKind.wrap .u64 (IntKind.wrap .u64 (Int.tmod left[k] 128) * ((128 ^ k : Nat) : Int))) = acc + left[k] % 128 * ((128 ^ k : Nat) : Int) := by
          rw [Int.tmod_eq_emod_of_nonneg hbk.1, wrapu64_in (x := left[k] % 128) (by omega) (by omega), wrapu64_in (x := left[k] % 128 * ((128 ^ k : Nat) : Int)) hpos (by omega), wrapu64_in (by omega) (by omega)]
        refine ⟨by decide, cond_dec (fun h128 => ?_) (fun h128 => ?_)⟩
        · rw [if_pos h128] at hs
          rw [e1, cst k (by omega)]
          have em : left[k] % 128 = left[k] := by omega
          rw [em]
          refine hR.cut (k := k + 1) (by omega) fun w' hR' hk' => ?_
          rw [← hs] at hK
          exact hK w' hR' hk'
        · rw [if_neg h128] at hs
          have hk8 : k ≤ 8 := by omega
          have hone : IntKind.wrap .u64 (((128 ^ k : Nat) : Int) * 128) = ((128 ^ (k + 1) : Nat) : Int) := by
            have h9 : 128 ^ (k + 1) ≤ 128 ^ 9 := Nat.pow_le_pow_right (by decide) (by omega)
            have e : ((128 ^ k : Nat) : Int) * 128 = ((128 ^ (k + 1) : Nat) : Int) := by rw [Nat.pow_succ]; push_cast; rfl
            rw [e]
            exact wrapu64_in (Int.natCast_nonneg _) (by omega)
          rw [e1, hone]
          show ref01_Reader_Var.l0 K (d + 1) _ _ _ (IntKind.wrap .i64 ((k : Int) + 1)) w
          rw [cst k (by omega)]
          exact ih (k + 1) _ (by omega) (by omega) e2 (by omega) hs (by omega)
      have pos : ¬ (k = 9 ∧ 1 < left[k]) → condP (decide ((0 : Int) < (k : Int))) (ref01_Reader_Var.p7 (ref01_Reader_Var.l0 K (d + 1)) K (some ⟨t, 0, none⟩) acc ((128 ^ k : Nat) : Int) k left[k] (left[k] == (0 : Int)) w) (ref01_Reader_Var.p7 (ref01_Reader_Var.l0 K (d + 1)) K (some ⟨t, 0, none⟩) acc ((128 ^ k : Nat) : Int) k left[k] false w) := fun hn => by
        refine cond_dec (fun hp => ?_) (fun hp => good (by omega))
        by_cases hz : left[k] = 0
        · have : (left[k] == (0 : Int)) = true := by simpa using hz
          rw [this]; exact bad (.inr ⟨by omega, hz⟩)
        · have : (left[k] == (0 : Int)) = false := by simpa using hz
          rw [this]; exact good (by omega)
      show condP ((k : Int) == (9 : Int)) _ _
      refine cond_eq (fun h9 => cond_dec (fun hc => bad (.inl ⟨by omega, hc⟩)) (fun hc => pos (by omega))) (fun h9 => pos (by omega))
theorem ref01_Reader_Var_c {w : World} {b : Nat} {p : Option Addr} {left : List Int} {err : Int} {F : Nat → Prop} {K : Value → World → Prop} (hR : RdV Ty.ref01_Reader w b p left err F) (hb : Bytes left) (hl : left.length ≤ 1000000000000000)
    (hK : ∀ w', RdV Ty.ref01_Reader w' b p (vLeft left err) (vErr left err) F → Kp (C.pt p) w w' → K (.int .u64 (vVal left err)) w') : CallsE Pg ref01_Reader_Var.N #[.pointer p] w K := by
  refine ref01_Reader_Var.ok ?_
  obtain ⟨t, A, c, rfl, hbt, hB, hc, hx, hg, rfl⟩ := id hR
  refine ⟨_, rfl, _, hB.cell' (j := 1) rfl, ?_⟩
  unfold vLeft vErr vVal at hK
  refine cond_ne (fun he => ?_) (fun he => ?_)
  · rw [if_pos he, if_pos he, if_pos he] at hK
    exact hK w hR (Kp.refl _ _)
  · subst he
    rw [if_neg (by decide), if_neg (by decide), if_neg (by decide)] at hK
    exact ⟨11, ref_var_loop hR hb hl hK 10 0 0 rfl (by decide) (by decide) (by omega) rfl (by decide)⟩
/-! bytes -/
def bOut (left : List Int) (err n : Int) : List Int := if err ≠ 0 ∨ n ≤ 0 then [] else if left.length < n then [] else left.take n.toNat
def bErr (left : List Int) (err n : Int) : Int := if err ≠ 0 ∨ n ≤ 0 then err else if left.length < n then 3 else 0
def bLeft (left : List Int) (err n : Int) : List Int := if err ≠ 0 ∨ n ≤ 0 then left else if left.length < n then left else left.drop n.toNat
theorem num_Reader_Bytes_c {w : World} {b : Nat} {p : Option Addr} {left : List Int} {err n : Int} {F : Nat → Prop} {K : Value → World → Prop} (hR : RdV Ty.num_Reader w b p left err F) (hl : left.length ≤ 140737488355328)
    (hK : ∀ A c w', RdV Ty.num_Reader w' b p (bLeft left err n) (bErr left err n) F → w'.ownsRow w.heap.size Ty.uint8 1 (.slice A (bOut left err n).length c) (bOut left err n).length (nums .u8 (bOut left err n)) → Kp (C.pt p) w w' → K (.slice A (bOut left err n).length c) w') : CallsE Pg num_Reader_Bytes.N #[.pointer p, .int .i64 n] w K := by
  refine num_Reader_Bytes.ok ?_
  show condP p.isNone _ _
  rw [hR.there]
  obtain ⟨t, A, c, rfl, hbt, hB, hc, hx, hg, rfl⟩ := id hR
  refine ⟨_, rfl, _, hB.cell' (j := 1) rfl, ?_⟩
  unfold bLeft bErr bOut at hK
  have none_ : (err ≠ 0 ∨ n ≤ 0) → num_Reader_Bytes.p1 K (some ⟨t, 0, none⟩) n true w := fun h => by
    rw [if_pos h, if_pos h, if_pos h] at hK
    exact hK none 0 w hR (World.ownsRow_nil _ _ _ _) (Kp.refl _ _)
  refine cond_ne (fun he => none_ (.inl he)) (fun he => ?_)
  by_cases hn : n ≤ 0
  · rw [decide_eq_true hn]; exact none_ (.inr hn)
  rw [decide_eq_false hn]
  have hno : ¬ (err ≠ 0 ∨ n ≤ 0) := by omega
  rw [if_neg hno, if_neg hno, if_neg hno] at hK
  subst he
  refine condP_f ⟨_, rfl, _, _, _, hB.cell' (j := 0) rfl, cond_dec (fun hlt => ?_) (fun hlt => ?_)⟩
  · rw [if_pos hlt, if_pos hlt, if_pos hlt] at hK
    refine hR.fail fun w' hR' hk' => ?_
    exact hK none 0 w' hR' (World.ownsRow_nil _ _ _ _) hk'
  · rw [if_neg hlt, if_neg hlt, if_neg hlt] at hK
    obtain ⟨m, rfl⟩ : ∃ m : Nat, n = m := ⟨n.toNat, by omega⟩
    rw [Int.toNat_natCast] at hK ⊢
    refine ⟨⟨by omega, by omega, by omega, by omega⟩, ?_⟩
    rw [made_bytes]
    refine wlet_intro fun w1 h1 => ?_
    have hal : Below w.heap.size w w1 := by rw [h1]; exact (Below.refl _ _).alloc (Nat.le_refl _) _
    have hz : Blk w1 w.heap.size Ty.uint8 (nums .u8 (List.replicate m 0)) := by rw [h1]; exact Blk.new w Ty.uint8 _
    clear h1
    have hR1 := hR.below hal
    refine ⟨_, rfl, _, _, _, (hB.kp (Kp.of_below hal) id).cell' (j := 0) rfl, ?_⟩
    have hml : (left.take m).length = m := by rw [List.length_take]; omega
    have hsrc : Cs w1 A (nums .u8 (left.take m)) := by rw [← nums_take]; exact (hx.below hal).take m
    have hs1 : (Pg.info? Ty.uint8).map (·.size) = some 1 := by kernel_rfl
    refine copy_blk bytes_under hs1 hz (cs := nums .u8 (left.take m)) (by rw [nums_len, hml]; exact (Nat.min_eq_right (by omega)).symm) hsrc (by rw [nums_len, nums_len, hml, List.length_replicate]; omega) (nums_one _ _) fun w2 hB2 hk2 => ⟨_, rfl, ?_⟩
    have e : (nums .u8 (List.replicate m 0)).take 0 ++ nums .u8 (left.take m) ++ (nums .u8 (List.replicate m 0)).drop (0 + (nums .u8 (left.take m)).length) = nums .u8 (left.take m) := by
      rw [List.drop_of_length_le (by rw [nums_len, nums_len, hml, List.length_replicate]; omega)]; simp
    rw [e] at hB2
    have hne : ∀ i, (i = t ∨ A.map (·.block) = some i) → ¬ (i = w.heap.size) := fun i hi e => by
      have := (hR.lt hi).2; omega
    have hR2 := hR1.kp hk2 hne
    have hk : Kp (C.pt (some ⟨t, 0, none⟩)) w w2 := (Kp.of_below hal).trans hk2 (fun _ _ h => h.elim) (fun i hi e => absurd hi (by omega))
    have := RdV.cut (k := m) (Q := fun w' => K (.slice (some ⟨w.heap.size, 0, none⟩) m m) w') hR2 (by omega) fun w3 hR3 hk3 => by
      have hB3 := hB2.kp hk3 (fun h => hne _ (.inl (pt_of h)) rfl)
      have ho := own_of_blk (base := w.heap.size) (size := 1) (n := m) (c := m) hB3 (Nat.le_refl _) (by rw [nums_len, hml]; omega) (Nat.le_refl _) (by unfold maxLen; omega)
      rw [List.take_of_length_le (by rw [nums_len, hml]; omega)] at ho
      have := hK (some ⟨w.heap.size, 0, none⟩) m w3 hR3 (by rw [hml]; exact ho) (hk.trans hk3 (fun _ _ h => h) (fun _ _ h => h))
      rw [hml] at this
      exact this
    rw [Int.toNat_natCast] at this
    exact this
theorem ref01_Reader_Bytes_c {w : World} {b : Nat} {p : Option Addr} {left : List Int} {err n : Int} {F : Nat → Prop} {K : Value → World → Prop} (hR : RdV Ty.ref01_Reader w b p left err F) (hl : left.length ≤ 140737488355328)
    (hK : ∀ A c w', RdV Ty.ref01_Reader w' b p (bLeft left err n) (bErr left err n) F → w'.ownsRow w.heap.size Ty.uint8 1 (.slice A (bOut left err n).length c) (bOut left err n).length (nums .u8 (bOut left err n)) → Kp (C.pt p) w w' → K (.slice A (bOut left err n).length c) w') : CallsE Pg ref01_Reader_Bytes.N #[.pointer p, .int .i64 n] w K := by
  refine ref01_Reader_Bytes.ok ?_
  obtain ⟨t, A, c, rfl, hbt, hB, hc, hx, hg, rfl⟩ := id hR
  refine ⟨_, rfl, _, hB.cell' (j := 1) rfl, ?_⟩
  unfold bLeft bErr bOut at hK
  have none_ : (err ≠ 0 ∨ n ≤ 0) → ref01_Reader_Bytes.p1 K (some ⟨t, 0, none⟩) n true w := fun h => by
    rw [if_pos h, if_pos h, if_pos h] at hK
    exact hK none 0 w hR (World.ownsRow_nil _ _ _ _) (Kp.refl _ _)
  refine cond_ne (fun he => none_ (.inl he)) (fun he => ?_)
  by_cases hn : n ≤ 0
  · rw [decide_eq_true hn]; exact none_ (.inr hn)
  rw [decide_eq_false hn]
  have hno : ¬ (err ≠ 0 ∨ n ≤ 0) := by omega
  rw [if_neg hno, if_neg hno, if_neg hno] at hK
  subst he
  refine condP_f ⟨_, rfl, _, _, _, hB.cell' (j := 0) rfl, cond_dec (fun hlt => ?_) (fun hlt => ?_)⟩
  · rw [if_pos hlt, if_pos hlt, if_pos hlt] at hK
    refine hR.fail fun w' hR' hk' => ?_
    exact hK none 0 w' hR' (World.ownsRow_nil _ _ _ _) hk'
  · rw [if_neg hlt, if_neg hlt, if_neg hlt] at hK
    obtain ⟨m, rfl⟩ : ∃ m : Nat, n = m := ⟨n.toNat, by omega⟩
    rw [Int.toNat_natCast] at hK ⊢
    refine wlet_intro fun w1 h1 => ?_
    have hal : Below w.heap.size w w1 := by rw [h1]; exact (Below.refl _ _).alloc (Nat.le_refl _) _
    have hnew : w1.ownsRow w.heap.size Ty.uint8 1 (.slice (some ⟨w.heap.size, 0, none⟩) 0 0) 0 (nums .u8 []) := by rw [h1]; exact own_new (Nat.le_refl _) (Nat.zero_le _) rfl
    clear h1
    have hR1 := hR.below hal
    refine ⟨_, rfl, _, _, _, (hB.kp (Kp.of_below hal) id).cell' (j := 0) rfl, ⟨by omega, by omega⟩, ?_⟩
    have hml : (left.take m).length = m := by rw [List.length_take]; omega
    have hA : Cs w1 (slA A 0 c 1) (nums .u8 (left.take m)) := by
      have := slA_cs (k := 0) (hx.below hal) (by omega) (by rw [nums_len]; exact hc)
      rw [List.drop_zero] at this
      rw [← nums_take]
      exact this.take m
    refine app_bytes hnew (by rw [hml]; omega) hA (by omega) hal.size fun A' c' w2 ho2 hm2 => ⟨_, _, _, rfl, ?_⟩
    have hmm : 0 + (m - 0) = m := by omega
    rw [hmm] at ho2 hm2 ⊢
    rw [List.nil_append] at ho2
    have hk2 : Kp (fun i => i = w.heap.size) w1 w2 := hm2.kp.mono fun i _ e => by cases e; rfl
    have hne : ∀ i, (i = t ∨ A.map (·.block) = some i) → ¬ (i = w.heap.size) := fun i hi e => by
      have := (hR.lt hi).2; omega
    have hR2 := hR1.kp hk2 hne
    have hk : Kp (C.pt (some ⟨t, 0, none⟩)) w w2 := (Kp.of_below hal).trans hk2 (fun _ _ h => h.elim) (fun i hi e => absurd hi (by omega))
    have := RdV.cut (k := m) (Q := fun w' => K (.slice A' m c') w') hR2 (by omega) fun w3 hR3 hk3 => by
      have ho := own_kp ho2 hk3 (fun g hg' h => by have h1 := (own_lt ho2 hg').1; have := (hR.lt (.inl (pt_of h))).2; omega)
      have := hK A' c' w3 hR3 (by rw [hml]; exact ho) (hk.trans hk3 (fun _ _ h => h) (fun _ _ h => h))
      rw [hml] at this
      exact this
    rw [Int.toNat_natCast] at this
    exact this
/-! ### readers: what is built upon bytes -/
theorem bOut_bytes {left : List Int} {err n : Int} (h : Bytes left) : Bytes (bOut left err n) := by
  unfold bOut
  (repeat' split)
  · intro x hx; cases hx
  · intro x hx; cases hx
  · exact h.take _
theorem bLeft_bytes {left : List Int} {err n : Int} (h : Bytes left) : Bytes (bLeft left err n) := by
  unfold bLeft
  (repeat' split)
  · exact h
  · exact h
  · exact h.drop _
theorem vLeft_bytes {left : List Int} {err : Int} (h : Bytes left) : Bytes (vLeft left err) := by
  unfold vLeft
  split
  · exact h
  · exact h.drop _
theorem bLeft_len {left : List Int} {err n : Int} : (bLeft left err n).length ≤ left.length := by
  unfold bLeft
  (repeat' split) <;> simp
theorem vLeft_len {left : List Int} {err : Int} : (vLeft left err).length ≤ left.length := by
  unfold vLeft
  split <;> simp
theorem bOut_len {left : List Int} {err n : Int} : (bOut left err n).length ≤ left.length := by
  unfold bOut
  (repeat' split) <;> simp
  exact Nat.min_le_right _ _
def uVal (left : List Int) (err most : Int) : Int := if most < vVal left err then 0 else vVal left err
def uErr (left : List Int) (err most : Int) : Int := if most < vVal left err then 4 else vErr left err
def uLeft (left : List Int) (err most : Int) : List Int := if most < vVal left err then left else vLeft left err
theorem uLeft_bytes {left : List Int} {err most : Int} (h : Bytes left) : Bytes (uLeft left err most) := by
  unfold uLeft
  split
  · exact h
  · exact vLeft_bytes h
theorem uLeft_len {left : List Int} {err most : Int} : (uLeft left err most).length ≤ left.length := by
  unfold uLeft
  split
  · exact Nat.le_refl _
  · exact vLeft_len
theorem num_Reader_Upto_c {w : World} {b : Nat} {p : Option Addr} {left : List Int} {err most : Int} {F : Nat → Prop} {K : Value → World → Prop} (hR : RdV Ty.num_Reader w b p left err F) (hb : Bytes left) (hl : left.length ≤ 1000000000000000)
    (hK : ∀ w', RdV Ty.num_Reader w' b p (uLeft left err most) (uErr left err most) F → Kp (pt p) w w' → K (.int .u64 (uVal left err most)) w') : CallsE Pg num_Reader_Upto.N #[.pointer p, .int .u64 most] w K := by
  refine num_Reader_Upto.ok ?_
  show condP p.isNone _ _
  rw [hR.there]
  obtain ⟨t, A, c, rfl, hbt, hB, hc, hx, hg, rfl⟩ := id hR
  refine ⟨_, rfl, _, _, _, hB.cell' (j := 0) rfl, num_Reader_Var_c hR hb hl fun w1 hR1 hk1 => ⟨_, rfl, ?_⟩⟩
  unfold uLeft uErr uVal at hK
  refine cond_dec (fun h => ?_) (fun h => ?_)
  · rw [if_pos h, if_pos h, if_pos h] at hK
    obtain ⟨t', A', c', e, hbt', hB', hc', hx', hg', hF⟩ := hR1
    cases e
    refine ⟨_, rfl, hB'.canStore (j := 0) (by simp), wlet_intro fun w2 h2 => ?_⟩
    have hB2 : Blk w2 t Ty.num_Reader [.slice A left.length c, .int .i64 (vErr left err)] := by rw [h2]; exact hB'.set 0 _
    have hk2 : Kp (· = t) w1 w2 := by rw [h2]; exact Kp.setCell _ _ _ rfl
    clear h2
    refine ⟨_, rfl, hB2.canStore (j := 1) (by simp), wlet_intro fun w3 h3 => ?_⟩
    have hB3 : Blk w3 t Ty.num_Reader [.slice A left.length c, .int .i64 4] := by rw [h3]; exact hB2.set 1 (.int .i64 4)
    have hk3 : Kp (· = t) w2 w3 := by rw [h3]; exact Kp.setCell _ _ _ rfl
    clear h3
    have hk23 : Kp (· = t) w1 w3 := hk2.trans hk3 (fun _ _ h => h) (fun _ _ h => h)
    have hk03 : Kp (pt (some ⟨t, 0, none⟩)) w w3 := hk1.trans hk23 (fun _ _ h => h) (fun i _ e => by subst e; rfl)
    refine hK w3 ⟨t, A, c, rfl, hbt, hB3, hc, hx.kp hk03 (fun a e h => ?_), fun g e => ?_, rfl⟩ hk03
    · exact (hg _ (by rw [e]; rfl)).2.2 (pt_of h)
    · obtain ⟨h1, h2, h3⟩ := hg g e
      exact ⟨h1, Nat.lt_of_lt_of_le h2 hk03.size, h3⟩
  · rw [if_neg h, if_neg h, if_neg h] at hK
    exact hK w1 hR1 hk1
theorem ref01_Reader_Upto_c {w : World} {b : Nat} {p : Option Addr} {left : List Int} {err most : Int} {F : Nat → Prop} {K : Value → World → Prop} (hR : RdV Ty.ref01_Reader w b p left err F) (hb : Bytes left) (hl : left.length ≤ 1000000000000000) (hm : 0 ≤ most)
    (hK : ∀ w', RdV Ty.ref01_Reader w' b p (uLeft left err most) (uErr left err most) F → Kp (pt p) w w' → K (.int .u64 (uVal left err most)) w') : CallsE Pg ref01_Reader_Upto.N #[.pointer p, .int .u64 most] w K := by
  refine ref01_Reader_Upto.ok ?_
  obtain ⟨t, A, c, rfl, hbt, hB, hc, hx, hg, rfl⟩ := id hR
  refine ⟨_, rfl, _, _, _, hB.cell' (j := 0) rfl, ref01_Reader_Var_c hR hb hl fun w1 hR1 hk1 => ⟨_, rfl, ?_⟩⟩
  unfold uLeft uErr uVal at hK
  have verr : vErr left err ≠ 0 → vVal left err = 0 := fun h => by
    unfold vErr at h
    unfold vVal
    by_cases he : err ≠ 0
    · rw [if_pos he]
    · rw [if_neg he] at h ⊢
      exact scan_err _ _ _ h
  obtain ⟨t', A', c', e, hbt', hB', hc', hx', hg', hF⟩ := id hR1
  cases e
  refine ⟨_, rfl, _, hB'.cell' (j := 1) rfl, cond_eq (fun h0 => ?_) (fun h0 => ?_)⟩
  · by_cases h : most < vVal left err
    · rw [if_pos h, if_pos h, if_pos h] at hK
      rw [decide_eq_true h]
      refine ⟨_, rfl, hB'.canStore (j := 1) (by simp), wlet_intro fun w2 h2 => ?_⟩
      have hB2 : Blk w2 t Ty.ref01_Reader [.slice A' (vLeft left err).length c', .int .i64 4] := by rw [h2]; exact hB'.set 1 (.int .i64 4)
      have hk2 : Kp (· = t) w1 w2 := by rw [h2]; exact Kp.setCell _ _ _ rfl
      clear h2
      refine ⟨_, rfl, hB2.canStore (j := 0) (by simp), wlet_intro fun w3 h3 => ?_⟩
      have hB3 : Blk w3 t Ty.ref01_Reader [.slice A left.length c, .int .i64 4] := by rw [h3]; exact hB2.set 0 _
      have hk3 : Kp (· = t) w2 w3 := by rw [h3]; exact Kp.setCell _ _ _ rfl
      clear h3
      have hk23 : Kp (· = t) w1 w3 := hk2.trans hk3 (fun _ _ h => h) (fun _ _ h => h)
      have hk03 : Kp (pt (some ⟨t, 0, none⟩)) w w3 := hk1.trans hk23 (fun _ _ h => h) (fun i _ e => by subst e; rfl)
      refine hK w3 ⟨t, A, c, rfl, hbt, hB3, hc, hx.kp hk03 (fun a e h => ?_), fun g e => ?_, rfl⟩ hk03
      · exact (hg _ (by rw [e]; rfl)).2.2 (pt_of h)
      · obtain ⟨h1, h2, h3⟩ := hg g e
        exact ⟨h1, Nat.lt_of_lt_of_le h2 hk03.size, h3⟩
    · rw [if_neg h, if_neg h, if_neg h] at hK
      rw [decide_eq_false h]
      exact hK w1 hR1 hk1
  · have hv := verr h0
    have h : ¬ most < vVal left err := by omega
    rw [if_neg h, if_neg h, if_neg h] at hK
    exact hK w1 hR1 hk1
def leftV (left : List Int) (err : Int) : Int := if err ≠ 0 then 0 else left.length
def endV (left : List Int) (err : Int) : Int := if err = 0 ∧ 0 < left.length then 6 else err
theorem num_Reader_Err_c {w : World} {b : Nat} {p : Option Addr} {left : List Int} {err : Int} {F : Nat → Prop} {K : Value → World → Prop} (hR : RdV Ty.num_Reader w b p left err F) (hK : K (.int .i64 err) w) : CallsE Pg num_Reader_Err.N #[.pointer p] w K := by
  refine num_Reader_Err.ok ?_
  show condP p.isNone _ _
  rw [hR.there]
  obtain ⟨t, A, c, rfl, hbt, hB, hc, hx, hg, rfl⟩ := hR
  exact ⟨_, rfl, _, hB.cell' (j := 1) rfl, hK⟩
theorem num_Reader_End_c {w : World} {b : Nat} {p : Option Addr} {left : List Int} {err : Int} {F : Nat → Prop} {K : Value → World → Prop} (hR : RdV Ty.num_Reader w b p left err F) (hK : K (.int .i64 (endV left err)) w) : CallsE Pg num_Reader_End.N #[.pointer p] w K := by
  have hR' := hR
  refine num_Reader_End.ok (num_Reader_Err_c hR ⟨_, rfl, ?_⟩)
  obtain ⟨t, A, c, rfl, hbt, hB, hc, hx, hg, rfl⟩ := hR
  unfold endV at hK
  refine cond_eq (fun he => ⟨_, rfl, _, _, _, hB.cell' (j := 0) rfl, ?_⟩) (fun he => ?_)
  · by_cases hl : (0 : Int) < (left.length : Int)
    · rw [decide_eq_true hl]
      rw [if_pos ⟨he, by omega⟩] at hK
      exact hK
    · rw [decide_eq_false hl]
      rw [if_neg (by omega)] at hK
      exact num_Reader_Err_c hR' ⟨_, rfl, hK⟩
  · rw [if_neg (fun h => he h.1)] at hK
    exact num_Reader_Err_c hR' ⟨_, rfl, hK⟩
theorem ref01_Reader_End_c {w : World} {b : Nat} {p : Option Addr} {left : List Int} {err : Int} {F : Nat → Prop} {K : Value → World → Prop} (hR : RdV Ty.ref01_Reader w b p left err F) (hK : K (.int .i64 (endV left err)) w) : CallsE Pg ref01_Reader_End.N #[.pointer p] w K := by
  refine ref01_Reader_End.ok ?_
  obtain ⟨t, A, c, rfl, hbt, hB, hc, hx, hg, rfl⟩ := hR
  have c1 := hB.cell' (j := 1) rfl
  unfold endV at hK
  refine ⟨_, rfl, _, c1, cond_eq (fun he => ⟨_, rfl, _, _, _, hB.cell' (j := 0) rfl, ?_⟩) (fun he => ?_)⟩
  · by_cases hl : (0 : Int) < (left.length : Int)
    · rw [decide_eq_true hl]
      rw [if_pos ⟨he, by omega⟩] at hK
      exact hK
    · rw [decide_eq_false hl]
      rw [if_neg (by omega)] at hK
      exact ⟨_, rfl, _, c1, hK⟩
  · rw [if_neg (fun h => he h.1)] at hK
    exact ⟨_, rfl, _, c1, hK⟩
def failV (err e : Int) : Int := if err = 0 then e else err
theorem num_Reader_Fail_c {w : World} {b : Nat} {p : Option Addr} {left : List Int} {err e : Int} {F : Nat → Prop} {K : Value → World → Prop} (hR : RdV Ty.num_Reader w b p left err F) (hK : ∀ w', RdV Ty.num_Reader w' b p left (failV err e) F → Kp (pt p) w w' → K (.tuple #[]) w') : CallsE Pg num_Reader_Fail.N #[.pointer p, .int .i64 e] w K := by
  refine num_Reader_Fail.ok ?_
  have hn : (!p.isNone) = true := by rw [hR.there]; rfl
  show condP (!p.isNone) _ _
  rw [hn]
  obtain ⟨t, A, c, rfl, hbt, hB, hc, hx, hg, rfl⟩ := id hR
  refine ⟨_, rfl, _, hB.cell' (j := 1) rfl, ?_⟩
  unfold failV at hK
  by_cases he : err = 0
  · have : (err == (0 : Int)) = true := by simpa using he
    rw [this]
    rw [if_pos he] at hK
    exact hR.fail hK
  · have : (err == (0 : Int)) = false := by simpa using he
    rw [this]
    rw [if_neg he] at hK
    exact hK w hR (Kp.refl _ _)
theorem ref01_Reader_Fail_c {w : World} {b : Nat} {p : Option Addr} {left : List Int} {err e : Int} {F : Nat → Prop} {K : Value → World → Prop} (hR : RdV Ty.ref01_Reader w b p left err F) (hK : ∀ w', RdV Ty.ref01_Reader w' b p left (failV err e) F → Kp (pt p) w w' → K (.tuple #[]) w') : CallsE Pg ref01_Reader_Fail.N #[.pointer p, .int .i64 e] w K := by
  refine ref01_Reader_Fail.ok ?_
  obtain ⟨t, A, c, rfl, hbt, hB, hc, hx, hg, rfl⟩ := id hR
  unfold failV at hK
  refine ⟨_, rfl, _, hB.cell' (j := 1) rfl, cond_eq (fun he => ?_) (fun he => ?_)⟩
  · rw [if_pos he] at hK
    exact hR.fail hK
  · rw [if_neg he] at hK
    exact hK w hR (Kp.refl _ _)
theorem num_Open_c {w : World} {A : Option Addr} {n c : Nat} {bs : List Int} {K : Value → World → Prop} (hx : Cs w A (nums .u8 bs)) (hn : n = bs.length) (hl : n ≤ 140737488355328)
    (hK : ∀ w' p F, RdV Ty.num_Reader w' w.heap.size p bs 0 F → Below w.heap.size w w' → K (.pointer p) w') : CallsE Pg num_Open.N #[.slice A n c] w K := by
  subst hn
  refine num_Open.ok ⟨⟨by omega, by omega, by omega, by omega⟩, ?_⟩
  have et : ((bs.length : Nat) : Int).toNat = bs.length := Int.toNat_natCast _
  rw [et, made_bytes]
  refine wlet_intro fun w1 h1 => ?_
  have hal : Below w.heap.size w w1 := by rw [h1]; exact (Below.refl _ _).alloc (Nat.le_refl _) _
  have hz : Blk w1 w.heap.size Ty.uint8 (nums .u8 (List.replicate bs.length 0)) := by rw [h1]; exact Blk.new w Ty.uint8 _
  clear h1
  have hs1 : (Pg.info? Ty.uint8).map (·.size) = some 1 := by kernel_rfl
  refine copy_blk bytes_under hs1 hz (cs := nums .u8 bs) (by rw [nums_len]; exact (Nat.min_self _).symm) (hx.below hal) (by rw [nums_len, nums_len, List.length_replicate]; omega) (nums_one _ _) fun w2 hB2 hk2 => ⟨_, rfl, wlet_intro fun w3 h3 => ?_⟩
  have e : (nums .u8 (List.replicate bs.length 0)).take 0 ++ nums .u8 bs ++ (nums .u8 (List.replicate bs.length 0)).drop (0 + (nums .u8 bs).length) = nums .u8 bs := by
    rw [List.drop_of_length_le (by rw [nums_len, nums_len, List.length_replicate]; omega)]; simp
  rw [e] at hB2
  have b2 : Below w.heap.size w w2 := hal.trans (hk2.below hal.size fun i hi e => by omega)
  have hal3 : Below w2.heap.size w2 w3 := by rw [h3]; exact (Below.refl _ _).alloc (Nat.le_refl _) _
  have hB : Blk w3 w2.heap.size Ty.num_Reader [.slice (some ⟨w.heap.size, 0, none⟩) bs.length bs.length, .int .i64 0] := by rw [h3]; exact Blk.new w2 Ty.num_Reader _
  clear h3
  have hB3 := hB2.kp (Kp.of_below hal3) id
  refine hK w3 _ (fun i => i = w2.heap.size ∨ (some (⟨w.heap.size, 0, none⟩ : Addr)).map (·.block) = some i) ⟨_, _, _, rfl, b2.size, hB, Nat.le_refl _, Cs.of_blk0 hB3, fun g hg => ?_, rfl⟩ (b2.trans (hal3.mono b2.size))
  cases hg
  have := hB2.lt
  exact ⟨Nat.le_refl _, hB3.lt, Nat.ne_of_lt this⟩
theorem ref01_Copy_c {w : World} {A : Option Addr} {n c : Nat} {bs : List Int} {K : Value → World → Prop} (hx : Cs w A (nums .u8 bs)) (hn : n = bs.length) (hl : n ≤ 140737488355328)
    (hK : ∀ A c w', w'.ownsRow w.heap.size Ty.uint8 1 (.slice A n c) n (nums .u8 bs) → Below w.heap.size w w' → K (.slice A n c) w') : CallsE Pg ref01_Copy.N #[.slice A n c] w K := by
  refine ref01_Copy.ok (wlet_intro fun w1 h1 => ?_)
  have hal : Below w.heap.size w w1 := by rw [h1]; exact (Below.refl _ _).alloc (Nat.le_refl _) _
  have hnew : w1.ownsRow w.heap.size Ty.uint8 1 (.slice (some ⟨w.heap.size, 0, none⟩) 0 0) 0 (nums .u8 []) := by rw [h1]; exact own_new (Nat.le_refl _) (Nat.zero_le _) rfl
  clear h1
  refine app_bytes hnew hn (hx.below hal) (by omega) hal.size fun A' c' w2 ho2 hm2 => ⟨_, _, _, rfl, ?_⟩
  rw [Nat.zero_add] at ho2 ⊢
  exact hK A' c' w2 ho2 (hal.trans (hm2.kp.below hal.size fun i hi e => by cases e; exact absurd hi (Nat.lt_irrefl _)))

end Go.Proofs.YtogmnhdadggnbaaDoor.C
