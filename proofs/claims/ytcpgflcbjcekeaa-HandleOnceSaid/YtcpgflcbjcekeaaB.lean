/-
  Parts of the proofs of this seat: what the functions compute. No condition beyond what each theorem states.
-/
import Derived.Test.YtcpgflcbjcekeaaF
import Derived.Test.YtcpgflcbjcekeaaRK
set_option linter.unusedVariables false
set_option linter.unusedSimpArgs false
set_option maxRecDepth 100000
namespace Go.Proofs.Ytcpgflcbjcekeaa.C
open Go Go.RowKit Go.Proofs.Ytcpgflcbjcekeaa Go.Proofs.Ytcpgflcbjcekeaa.Sh Go.Proofs.Ytcpgflcbjcekeaa.F Go.Proofs.Ytcpgflcbjcekeaa.R

/-! ### lists of whole numbers -/
def nums (k : IntKind) (xs : List Int) : List Value := xs.map fun x => .int k x
theorem nums_len (k : IntKind) (xs : List Int) : (nums k xs).length = xs.length := by simp [nums]
theorem nums_at {k : IntKind} {xs : List Int} {j : Nat} {x : Int} (h : xs[j]? = some x) : (nums k xs)[j]? = some (.int k x) := by simp [nums, h]
theorem nums_one (k : IntKind) (xs : List Int) : ∀ u ∈ nums k xs, u.oneCell' = true := fun u hu => by
  obtain ⟨x, _, rfl⟩ := List.mem_map.1 hu
  rfl
theorem nums_app (k : IntKind) (xs ys : List Int) : nums k (xs ++ ys) = nums k xs ++ nums k ys := by simp [nums]
theorem take_snoc {α : Type} {xs : List α} {k : Nat} {x : α} (h : xs[k]? = some x) : xs.take (k + 1) = xs.take k ++ [x] := by
  obtain ⟨hk, rfl⟩ := List.getElem?_eq_some_iff.1 h
  rw [List.take_succ_eq_append_getElem hk]
/-! ### rows, handles -/
structure Row where
  gen : Int
  live : Bool
  kind : Int
  place : Int
def Row.cells (r : Row) : List Value := [.int .i64 r.gen, .bool r.live, .int .i64 r.kind, .int .i64 r.place]
theorem Row.cells_len (r : Row) : r.cells.length = 4 := rfl
def zeroRow : Row := ⟨0, false, 0, 0⟩
def hdl (i g : Int) : Int := if i < 1 ∨ 4096 < i ∨ g < 1 ∨ 65535 < g then 0 else i + 65536 * g
theorem shl_or {a b : Int} (ha : 0 ≤ a) (ha2 : a ≤ 65535) (hb : 0 ≤ b) (hb2 : b < 65536) : ibits .or .u64 (ishl .u64 (IntKind.wrap .u64 a) 16) (IntKind.wrap .u64 b) = b + 65536 * a := by
  obtain ⟨x, rfl⟩ := Int.eq_ofNat_of_zero_le ha
  obtain ⟨y, rfl⟩ := Int.eq_ofNat_of_zero_le hb
  have e1 : IntKind.wrap .u64 (x : Int) = x := wrapu64_in (by omega) (by omega)
  have e2 : IntKind.wrap .u64 (y : Int) = y := wrapu64_in (by omega) (by omega)
  have e3 : ishl .u64 (x : Int) 16 = ((x <<< 16 : Nat) : Int) := by
    unfold ishl
    have : min (16 : Int).toNat (IntKind.u64).bits = 16 := by decide
    rw [this, Nat.shiftLeft_eq]
    rw [wrapu64_in (by omega) (by omega)]
    simp
  rw [e1, e2, e3]
  unfold ibits
  simp only []
  have h1 : BitVec.ofInt (IntKind.u64).bits ((x <<< 16 : Nat) : Int) = BitVec.ofNat 64 (x <<< 16) := BitVec.ofInt_natCast 64 (x <<< 16)
  have h2 : BitVec.ofInt (IntKind.u64).bits (y : Int) = BitVec.ofNat 64 y := BitVec.ofInt_natCast 64 y
  rw [h1, h2]
  have hx : x <<< 16 < 2 ^ 64 := by rw [Nat.shiftLeft_eq]; omega
  have h3 : (BitVec.ofNat 64 (x <<< 16) ||| BitVec.ofNat 64 y).toNat = x <<< 16 + y := by
    rw [BitVec.toNat_or, BitVec.toNat_ofNat, BitVec.toNat_ofNat, Nat.mod_eq_of_lt hx, Nat.mod_eq_of_lt (by omega)]
    exact (Nat.shiftLeft_add_eq_or_of_lt (by omega) x).symm
  have h4 : IntKind.wrap .u64 (((x <<< 16 + y : Nat)) : Int) = (y : Int) + 65536 * x := by
    rw [Nat.shiftLeft_eq]
    rw [wrapu64_in (by omega) (by omega)]
    omega
  rw [← h4]
  congr 1
  exact congrArg Nat.cast h3
theorem and16 {a : Int} (ha : 0 ≤ a) (ha2 : a ≤ 18446744073709551615) : ibits .and .u64 a 65535 = a % 65536 := by
  obtain ⟨x, rfl⟩ := Int.eq_ofNat_of_zero_le ha
  unfold ibits
  simp only []
  have h1 : BitVec.ofInt (IntKind.u64).bits (x : Int) = BitVec.ofNat 64 x := BitVec.ofInt_natCast 64 x
  have h2 : BitVec.ofInt (IntKind.u64).bits (65535 : Int) = BitVec.ofNat 64 65535 := BitVec.ofInt_natCast 64 65535
  rw [h1, h2]
  have h3 : (BitVec.ofNat 64 x &&& BitVec.ofNat 64 65535).toNat = x % 65536 := by
    rw [BitVec.toNat_and, BitVec.toNat_ofNat, BitVec.toNat_ofNat, Nat.mod_eq_of_lt (show x < 2 ^ 64 by omega)]
    exact Nat.and_two_pow_sub_one_eq_mod x 16
  have h4 : IntKind.wrap .u64 ((x % 65536 : Nat) : Int) = (x : Int) % 65536 := by rw [wrapu64_in (by omega) (by omega)]; omega
  rw [← h4]
  congr 1
  exact congrArg Nat.cast h3
theorem shr16 {a : Int} (ha : 0 ≤ a) : ishr .u64 a 16 = a / 65536 := by
  unfold ishr
  have : min (16 : Int).toNat (IntKind.u64).bits = 16 := by decide
  rw [this]
  exact Int.fdiv_eq_ediv_of_nonneg a (by decide)
theorem handle_Of_c {i g : Int} {K : Value → World → Prop} {w : World} (h : K (.int .u64 (hdl i g)) w) : CallsE Pg handle_Of.N #[.int .i64 i, .int .i64 g] w K := by
  refine handle_Of.ok ?_
  unfold hdl at h
  refine cond_dec (fun h1 => ?_) (fun h1 => ?_)
  · rw [if_pos (by omega)] at h; exact h
  refine cond_dec (fun h2 => ?_) (fun h2 => ?_)
  · rw [if_pos (by omega)] at h; exact h
  refine cond_dec (fun h3 => ?_) (fun h3 => ?_)
  · rw [if_pos (by omega)] at h; exact h
  refine cond_dec (fun h4 => ?_) (fun h4 => ?_)
  · rw [if_pos (by omega)] at h; exact h
  rw [if_neg (by omega)] at h
  refine ⟨by decide, ?_⟩
  rw [shl_or (by omega) (by omega) (by omega) (by omega)]
  exact h
theorem ref12_Of_c {i g : Int} {K : Value → World → Prop} {w : World} (h : K (.int .u64 (hdl i g)) w) : CallsE Pg ref12_Of.N #[.int .i64 i, .int .i64 g] w K := by
  refine ref12_Of.ok ?_
  unfold hdl at h
  refine cond_dec (fun h1 => ?_) (fun h1 => ?_)
  · rw [if_pos (by omega)] at h; exact h
  refine cond_dec (fun h2 => ?_) (fun h2 => ?_)
  · rw [if_pos (by omega)] at h; exact h
  refine cond_dec (fun h3 => ?_) (fun h3 => ?_)
  · rw [if_pos (by omega)] at h; exact h
  refine cond_dec (fun h4 => ?_) (fun h4 => ?_)
  · rw [if_pos (by omega)] at h; exact h
  rw [if_neg (by omega)] at h
  show K (.int .u64 (IntKind.wrap .u64 (IntKind.wrap .i64 (i + (IntKind.wrap .i64 ((65536 : Int) * g)))))) w
  rw [wrap64_in (x := 65536 * g) (by omega) (by omega), wrap64_in (x := i + 65536 * g) (by omega) (by omega), wrapu64_in (by omega) (by omega)]
  exact h

/-! '==' of rows -/
def Row.same (a b : Row) : Bool := a.gen == b.gen && (a.live == b.live && (a.kind == b.kind && (a.place == b.place && true)))
theorem Row.same_iff {a b : Row} : a.same b = true ↔ a = b := by
  cases a; cases b
  simp [Row.same]
theorem row_eq (a b : Row) : aggEq Pg .eql Ty.api_Row (.agg ⟨a.cells⟩) (.agg ⟨b.cells⟩) (.bool (a.same b)) ∧ aggEq Pg .neq Ty.api_Row (.agg ⟨a.cells⟩) (.agg ⟨b.cells⟩) (.bool (!a.same b)) := by
  have hi : Pg.underlying Ty.int = some (.int .i64) := by kernel_rfl
  have hb : Pg.underlying Ty.bool = some .bool := by kernel_rfl
  have hu : Pg.underlying Ty.api_Row = some (.struct #[⟨"Gen", Ty.int, 0, false, "", "", 0⟩, ⟨"Live", Ty.bool, 1, false, "", "", 8⟩, ⟨"Kind", Ty.int, 2, false, "", "", 16⟩, ⟨"At", Ty.int, 3, false, "", "", 24⟩]) := by kernel_rfl
  exact aggEq_struct hu (by kernel_rfl) (by kernel_rfl) (.cons rfl rfl rfl rfl (.int hi) (.cons rfl rfl rfl rfl (.bool hb) (.cons rfl rfl rfl rfl (.int hi) (.cons rfl rfl rfl rfl (.int hi) (.nil _)))))

/-! the rows of a slice -/
theorem rows_at {w : World} {A : Option Addr} {l : List Row} (h : Cs w A (l.flatMap Row.cells)) {k : Nat} {r : Row} (hk : l[k]? = some r) :
    ∃ a, A = some a ∧ w.cell? (a.add (k * 4)) = some (.int .i64 r.gen) ∧ w.cell? ((a.add (k * 4)).add 1) = some (.bool r.live) ∧ w.cell? ((a.add (k * 4)).add 2) = some (.int .i64 r.kind) ∧ w.cell? ((a.add (k * 4)).add 3) = some (.int .i64 r.place) := by
  obtain ⟨a, e, hc⟩ := h.row Row.cells_len hk (by decide)
  exact ⟨a, e, hc 0 _ rfl, hc 1 _ rfl, hc 2 _ rfl, hc 3 _ rfl⟩
def Row.right (r : Row) : Bool := if r.live then decide (1 ≤ r.gen) && decide (r.gen ≤ 65535) else decide (0 ≤ r.gen) && decide (r.gen ≤ 65535) && (r.kind == 0 && r.place == 0)
theorem handle_right_c {r : Row} {K : Value → World → Prop} {w : World} (h : ∀ w', Below w.heap.size w w' → K (.bool r.right) w') : CallsE Pg handle_right.N #[.agg ⟨r.cells⟩] w K := by
  refine handle_right.ok (q0_0 := r.gen) (q0_1 := r.live) (q0_2 := r.kind) (q0_3 := r.place) (wlet_intro fun w1 h1 => ?_)
  have hB : Blk w1 w.heap.size Ty.api_Row r.cells := by rw [h1]; exact Blk.new w Ty.api_Row r.cells
  replace h := h w1 (by rw [h1]; exact (Below.refl _ w).alloc (Nat.le_refl _) _)
  clear h1
  have c0 := hB.cell' (j := 0) rfl
  have c1 := hB.cell' (j := 1) rfl
  have c2 := hB.cell' (j := 2) rfl
  have c3 := hB.cell' (j := 3) rfl
  refine ⟨_, c1, ?_⟩
  unfold Row.right at h
  cases hl : r.live with
  | true =>
    rw [hl, if_pos rfl] at h
    refine ⟨_, c0, cond_dec (fun h1 => ⟨_, c0, ?_⟩) (fun h1 => ?_)⟩
    · rw [decide_eq_true h1] at h; exact h
    · rw [decide_eq_false h1] at h; exact h
  | false =>
    rw [hl, if_neg (by simp)] at h
    refine ⟨_, c0, cond_dec (fun h1 => ⟨_, c0, cond_dec (fun h2 => ⟨_, c0, _, c1, _, c2, _, c3, _, c0, _, (row_eq r ⟨r.gen, false, 0, 0⟩).1, ?_⟩) (fun h2 => ?_)⟩) (fun h1 => ?_)⟩
    · rw [decide_eq_true h1, decide_eq_true h2] at h
      have : r.same ⟨r.gen, false, 0, 0⟩ = (true && true && (r.kind == 0 && r.place == 0)) := by simp [Row.same, hl]
      show K (.bool _) _
      rw [this]; exact h
    · rw [decide_eq_false h2, Bool.and_false] at h; exact h
    · rw [decide_eq_false h1] at h; exact h
/-! ### the code's table -/
theorem row_info : (Pg.info? Ty.api_Row).map (fun i => (i.zero, i.size, i.bytes)) = some (some (.agg #[.int .i64 0, .bool false, .int .i64 0, .int .i64 0]), 4, 32) := by kernel_rfl
theorem rows_under : Pg.underlying Ty.sl_api_Row = some (.slice Ty.api_Row) := by kernel_rfl
theorem rows_one (l : List Row) : ∀ u ∈ l.flatMap Row.cells, u.oneCell' = true := fun u hu => by
  obtain ⟨r, _, hr⟩ := List.mem_flatMap.1 hu
  simp only [Row.cells, List.mem_cons, List.not_mem_nil, or_false] at hr
  rcases hr with rfl | rfl | rfl | rfl <;> rfl
theorem app_rows {w : World} {base : Nat} {v : Value} {n : Nat} {l : List Row} (hown : w.ownsRow base Ty.api_Row 4 v n (l.flatMap Row.cells)) {B : Option Addr} {m c : Nat} {r : List Row} (hl : m = r.length) (hnews : Cs w B (r.flatMap Row.cells))
    (hbytes : (n + m) * 32 ≤ 140737488355328) (hbase : base ≤ w.heap.size) {K : Value → World → Prop}
    (h : ∀ A' c' w', w'.ownsRow base Ty.api_Row 4 (.slice A' (n + m) c') (n + m) ((l ++ r).flatMap Row.cells) → Mv (fun g => v.ownBlock = some g) w w' (fun g => (Value.slice A' (n + m) c').ownBlock = some g) → K (.slice A' (n + m) c') w') :
    SemJ Pg (Builtin.append_ #[Ty.sl_api_Row, Ty.sl_api_Row] Ty.sl_api_Row #[v, .slice B m c]) K w :=
  app_own base rows_under row_info rfl (by decide) hown (by rw [flat_len Row.cells_len, hl]) hnews (rows_one r) hbytes (by decide) hbase fun A' c' w' h1 h2 => h A' c' w' (by rw [List.flatMap_append]; exact h1) h2
def Row.free (r : Row) : Bool := !r.live && decide (r.gen < 65535)
def nextI (l : List Row) : Nat := l.findIdx Row.free
theorem nextI_le (l : List Row) : nextI l ≤ l.length := List.findIdx_le_length
def nextV (l : List Row) (m : Nat) : Int := if nextI l < l.length then (nextI l : Int) else if l.length < m then (l.length : Int) else -1
def mkL (l : List Row) (m : Nat) (k q : Int) : List Row :=
  if nextI l < l.length then l.set (nextI l) ⟨(l.getD (nextI l) zeroRow).gen + 1, true, k, q⟩ else if l.length < m then l ++ [⟨1, true, k, q⟩] else l
def mkH (l : List Row) (m : Nat) : Int := if nextI l < l.length then hdl (nextI l + 1) ((l.getD (nextI l) zeroRow).gen + 1) else if l.length < m then hdl (l.length + 1) 1 else 0
def mkE (l : List Row) (m : Nat) : Int := if nextI l < l.length then 0 else if l.length < m then 0 else 7
def rowAt (l : List Row) (h : Int) : Option Nat :=
  match l[(h % 65536 - 1).toNat]? with
  | some r => if h % 65536 ≠ 0 ∧ r.live = true ∧ r.gen = h / 65536 then some (h % 65536 - 1).toNat else none
  | none => none

def TabC (w : World) (b : Nat) (p : Option Addr) (m : Nat) (l : List Row) (F : Nat → Prop) : Prop :=
  ∃ t A c, p = some ⟨t, 0, none⟩ ∧ b ≤ t ∧ Blk w t Ty.handle_Table [.int .i64 m, .slice A l.length c] ∧ w.ownsRow b Ty.api_Row 4 (.slice A l.length c) l.length (l.flatMap Row.cells) ∧
    (∀ g, (Value.slice A l.length c).ownBlock = some g → g ≠ t) ∧ F = fun i => i = t ∨ (Value.slice A l.length c).ownBlock = some i
theorem TabC.kp {w w' : World} {b : Nat} {p : Option Addr} {m : Nat} {l : List Row} {F S : Nat → Prop} (h : TabC w b p m l F) (k : Kp S w w') (hd : ∀ i, F i → ¬ S i) : TabC w' b p m l F := by
  obtain ⟨t, A, c, rfl, hbt, hB, ho, hne, rfl⟩ := h
  exact ⟨t, A, c, rfl, hbt, hB.kp k (hd t (.inl rfl)), own_kp ho k (fun g hg => hd g (.inr hg)), hne, rfl⟩
theorem TabC.lt {w : World} {b : Nat} {p : Option Addr} {m : Nat} {l : List Row} {F : Nat → Prop} (h : TabC w b p m l F) {i : Nat} (hi : F i) : b ≤ i ∧ i < w.heap.size := by
  obtain ⟨t, A, c, rfl, hbt, hB, ho, hne, rfl⟩ := h
  rcases hi with rfl | hi
  · exact ⟨hbt, hB.lt⟩
  · exact own_lt ho hi
theorem TabC.below {w w' : World} {b : Nat} {p : Option Addr} {m : Nat} {l : List Row} {F : Nat → Prop} (h : TabC w b p m l F) (k : Below w.heap.size w w') : TabC w' b p m l F := h.kp (Kp.of_below k) (fun _ _ => id)

theorem cst (k : Nat) (h : (k : Int) + 1 ≤ 9223372036854775807) : IntKind.wrap .i64 ((k : Int) + 1) = ((k + 1 : Nat) : Int) := by rw [wrap64_in (by omega) (by omega)]; rfl

theorem next_loop {w0 : World} {b : Nat} {p : Option Addr} {m : Nat} {l : List Row} {F : Nat → Prop} {A : Option Addr} {c : Nat} {K : Value → World → Prop} (hT : TabC w0 b p m l F) (hx : Cs w0 A (l.flatMap Row.cells)) (hl : l.length ≤ 4096)
    (hK : ∀ w', Below w0.heap.size w0 w' → K (.int .i64 (nextV l m)) w') : ∀ (d k : Nat) (w : World), k + d = l.length → Below w0.heap.size w0 w → nextI (l.drop k) + k = nextI l →
    handle_Table_next.l0 K (d + 1) p A l.length c l.length k w := by
  intro d
  induction d with
  | zero =>
    intro k w hk hb hn
    rw [handle_Table_next.l0_succ]
    have hbig : ¬ nextI l < l.length := by omega
    show condP (decide ((k : Int) < _)) _ _
    refine cond_dec (fun h => by omega) (fun _ => ?_)
    obtain ⟨t, A', c', rfl, hbt, hB, ho, hne, rfl⟩ := hT.below hb
    have c0 := hB.cell' (j := 0) rfl
    have c1 := hB.cell' (j := 1) rfl
    refine ⟨_, rfl, _, _, _, c1, _, rfl, _, c0, ?_⟩
    have hK := hK w hb
    unfold nextV at hK
    rw [if_neg hbig] at hK
    refine cond_dec (fun h => ⟨_, rfl, _, _, _, c1, ?_⟩) (fun h => ?_)
    · rw [if_pos (by omega)] at hK; exact hK
    · rw [if_neg (by omega)] at hK; exact hK
  | succ d ih =>
    intro k w hk hb hn
    rw [handle_Table_next.l0_succ]
    show condP (decide ((k : Int) < _)) _ _
    refine cond_dec (fun _ => ?_) (fun h => absurd h (by omega))
    have hlt : k < l.length := by omega
    have hxk : l[k]? = some l[k] := List.getElem?_eq_getElem hlt
    obtain ⟨a, rfl, c0, c1, c2, c3⟩ := rows_at (hx.below hb) hxk
    refine ⟨⟨by omega, by omega⟩, a, rfl, _, c0, _, c1, _, c2, _, c3, ?_⟩
    refine fresh (vs := l[k].cells) rfl fun w1 hB hb1 _ => ?_
    have hb2 := hb.trans (hb1.mono hb.size)
    have d0 := hB.cell' (j := 0) rfl
    have d1 := hB.cell' (j := 1) rfl
    rw [List.drop_eq_getElem_cons hlt] at hn
    unfold nextI at hn
    rw [List.findIdx_cons] at hn
    have next : l[k].free = false → handle_Table_next.l0 K (d + 1) p (some a) l.length c l.length (IntKind.wrap .i64 ((k : Int) + 1)) w1 := fun hf => by
      rw [cst k (by omega)]
      refine ih (k + 1) w1 (by omega) hb2 ?_
      rw [hf] at hn
      unfold nextI
      simp only [cond_false] at hn
      omega
    refine ⟨_, d1, ?_⟩
    cases hlv : l[k].live with
    | true => exact next (by simp [Row.free, hlv])
    | false =>
      refine ⟨_, d0, ?_⟩
      refine cond_dec (fun hg => ?_) (fun hg => next (by simp [Row.free, hlv]; omega))
      have hf : l[k].free = true := by simp [Row.free, hlv, hg]
      rw [hf] at hn
      simp only [cond_true] at hn
      have hK := hK w1 hb2
      unfold nextV at hK
      rw [if_pos (by unfold nextI; omega)] at hK
      have : nextI l = k := by unfold nextI; omega
      rw [this] at hK
      exact hK
theorem handle_Table_next_c {w : World} {b : Nat} {p : Option Addr} {m : Nat} {l : List Row} {F : Nat → Prop} {K : Value → World → Prop} (hT : TabC w b p m l F) (hl : l.length ≤ 4096)
    (hK : ∀ w', Below w.heap.size w w' → K (.int .i64 (nextV l m)) w') : CallsE Pg handle_Table_next.N #[.pointer p] w K := by
  refine handle_Table_next.ok ?_
  obtain ⟨t, A, c, rfl, hbt, hB, ho, hne, rfl⟩ := id hT
  refine ⟨_, rfl, _, _, _, hB.cell' (j := 1) rfl, l.length + 1, ?_⟩
  exact next_loop hT (Cs.ofOwn ho) hl hK l.length 0 w (by omega) (Below.refl _ _) (by simp)
theorem handle_Table_Full_c {w : World} {b : Nat} {p : Option Addr} {m : Nat} {l : List Row} {F : Nat → Prop} {K : Value → World → Prop} (hT : TabC w b p m l F) (hl : l.length ≤ 4096)
    (hK : ∀ w', Below w.heap.size w w' → K (.bool (decide (nextV l m < 0))) w') : CallsE Pg handle_Table_Full.N #[.pointer p] w K := by
  refine handle_Table_Full.ok ?_
  have hs : p.isNone = false := by obtain ⟨t, A, c, rfl, _⟩ := hT; rfl
  show condP p.isNone _ _
  rw [hs]
  exact handle_Table_next_c hT hl fun w' hb => ⟨_, rfl, hK w' hb⟩
theorem held {w : World} {a : Addr} {v : Value} (hc : w.cell? a = some v) : ∀ w' : World, w'.heap = w.heap → w'.cell? a = some v := fun w' e => by
  unfold World.cell? at hc ⊢
  rw [e]; exact hc

/-- What is behind the new row. -/
theorem make_tail {w : World} {b : Nat} {p : Option Addr} {m i : Nat} {l : List Row} {F : Nat → Prop} {g0 : Row} {k q : Int} {K : Value → World → Prop} (hT : TabC w b p m l F) (hi : l[i]? = some g0) (hl : l.length ≤ 4096) (hg : 0 ≤ g0.gen ∧ g0.gen < 65535)
    (hK : ∀ w', TabC w' b p m (l.set i ⟨g0.gen + 1, true, k, q⟩) F → Kp F w w' → K (.tuple #[.int .u64 (hdl (i + 1) (g0.gen + 1)), .int .i64 0]) w') : handle_Table_Make.p4 K p k q i w := by
  obtain ⟨t, A, c, rfl, hbt, hB, ho, hne, rfl⟩ := hT
  have hil := (List.getElem?_eq_some_iff.1 hi).1
  obtain ⟨a, rfl, c0, _⟩ := rows_at (Cs.ofOwn ho) hi
  have c1 := hB.cell' (j := 1) rfl
  refine ⟨fun H => H = w.heap, rfl, _, rfl, _, rfl, _, _, _, held c1, _, _, _, held c1, ⟨by omega, by omega⟩, a, rfl, _, held c0, rfl, ⟨by omega, by omega⟩, a, rfl, ?_⟩
  have e1 : IntKind.wrap .i64 (g0.gen + 1) = g0.gen + 1 := wrap64_in (by omega) (by omega)
  rw [e1]
  refine own_stores (m := 4) (f := Row.cells) (x := g0) (y := ⟨g0.gen + 1, true, k, q⟩) (vs := [_, _, _, _]) (i := 0) ho Row.cells_len hi (Nat.le_refl 4) rfl fun w1 ho1 hk1 _ => ?_
  have hB1 := hB.kp hk1 (fun e => hne _ rfl e.symm)
  have c1 := hB1.cell' (j := 1) rfl
  have hi1 : (l.set i ⟨g0.gen + 1, true, k, q⟩)[i]? = some ⟨g0.gen + 1, true, k, q⟩ := List.getElem?_set_self hil
  obtain ⟨a', e, c0, _⟩ := rows_at (Cs.ofOwn ho1) hi1
  cases e
  refine ⟨_, rfl, _, _, _, c1, ⟨by omega, by omega⟩, a, rfl, _, c0, ?_⟩
  rw [wrap64_in (x := (i : Int) + 1) (by omega) (by omega)]
  refine handle_Of_c ⟨_, rfl, hK w1 ⟨t, some a, c, rfl, hbt, by rw [List.length_set]; exact hB1, by rw [List.length_set]; exact ho1, by rw [List.length_set]; exact hne, by rw [List.length_set]⟩ (hk1.mono fun i _ e => .inr (by rw [e]; rfl))⟩
theorem handle_Table_Make_c {w : World} {b : Nat} {p : Option Addr} {m : Nat} {l : List Row} {F : Nat → Prop} {k q : Int} {K : Value → World → Prop} (hT : TabC w b p m l F) (hb : b ≤ w.heap.size) (hlm : l.length ≤ m) (hm : m ≤ 4096) (hok : ∀ r ∈ l, 0 ≤ r.gen ∧ r.gen ≤ 65535)
    (hK : ∀ w' F', TabC w' b p m (mkL l m k q) F' → Mv F w w' F' → K (.tuple #[.int .u64 (mkH l m), .int .i64 (mkE l m)]) w') : CallsE Pg handle_Table_Make.N #[.pointer p, .int .i64 k, .int .i64 q] w K := by
  refine handle_Table_Make.ok ?_
  have hs : p.isNone = false := by obtain ⟨t, A, c, rfl, _⟩ := hT; rfl
  show condP p.isNone _ _
  rw [hs]
  refine handle_Table_next_c hT (by omega) fun w1 hb1 => ⟨_, rfl, ?_⟩
  have hT1 := hT.below hb1
  unfold nextV
  unfold mkL mkH mkE at hK
  by_cases h1 : nextI l < l.length
  · rw [if_pos h1]
    rw [if_pos h1, if_pos h1, if_pos h1] at hK
    refine cond_dec (fun h => by omega) (fun _ => ?_)
    obtain ⟨t, A, c, rfl, hbt, hB, ho, hne, rfl⟩ := id hT1
    refine ⟨_, rfl, _, _, _, hB.cell' (j := 1) rfl, cond_eq (fun h => by omega) (fun _ => ?_)⟩
    have hgi : l[nextI l]? = some l[nextI l] := List.getElem?_eq_getElem h1
    have hfr : l[nextI l].free = true := List.findIdx_getElem (w := h1)
    have hgd : l.getD (nextI l) zeroRow = l[nextI l] := by rw [List.getD_eq_getElem?_getD, hgi]; rfl
    rw [hgd] at hK
    have hg := hok _ (List.getElem_mem h1)
    have hg2 : l[nextI l].gen < 65535 := by
      unfold Row.free at hfr
      rw [Bool.and_eq_true] at hfr
      exact of_decide_eq_true hfr.2
    exact make_tail hT1 hgi (by omega) ⟨hg.1, hg2⟩ fun w' hT' hk => hK w' _ hT' ((Mv.of_below hb1).trans (Mv.of_kp hk))
  · rw [if_neg h1]
    rw [if_neg h1, if_neg h1, if_neg h1] at hK
    by_cases h2 : l.length < m
    · rw [if_pos h2]
      rw [if_pos h2, if_pos h2, if_pos h2] at hK
      refine cond_dec (fun h => by omega) (fun _ => ?_)
      obtain ⟨t, A, c, rfl, hbt, hB, ho, hne, rfl⟩ := id hT1
      have c1 := hB.cell' (j := 1) rfl
      refine ⟨_, rfl, _, _, _, c1, cond_eq (fun _ => ?_) (fun h => absurd rfl h)⟩
      refine ⟨_, rfl, _, _, _, c1, wlet_intro fun w2 h2' => ?_⟩
      have hal : Below w1.heap.size w1 w2 := by rw [h2']; exact (Below.refl _ _).alloc (Nat.le_refl _) _
      have hz : Blk w2 w1.heap.size Ty.api_Row zeroRow.cells := by rw [h2']; exact Blk.new w1 Ty.api_Row zeroRow.cells
      clear h2'
      have ho2 := own_below_kp ho hal
      have hB2 := hB.kp (Kp.of_below hal) id
      refine app_rows (m := 1) (r := [zeroRow]) ho2 rfl (by simpa using Cs.of_blk0 hz) (by omega) (Nat.le_trans hb (Nat.le_trans hb1.size hal.size)) fun A' c' w3 ho3 hm3 => ⟨_, _, _, rfl, ?_⟩
      have hB3 := hB2.kp hm3.kp (fun e => hne t e rfl)
      have hne3 : ∀ g, (Value.slice A' (l.length + 1) c').ownBlock = some g → g ≠ t := fun g hg e => by
        rcases hm3.foot g hg with h | h
        · exact hne g h e
        · have := hB2.lt; omega
      refine ⟨_, rfl, hB3.canStore (j := 1) (by simp), ?_⟩
      have hB4 := hB3.set 1 (.slice A' (l.length + 1) c')
      have hk4 : Kp (· = t) w3 (w3.setCell ⟨t, 1, none⟩ (.slice A' (l.length + 1) c')) := Kp.setCell _ _ _ rfl
      show handle_Table_Make.p4 K _ k q _ (w3.setCell ⟨t, 1, none⟩ (.slice A' (l.length + 1) c'))
      generalize w3.setCell ⟨t, 1, none⟩ (.slice A' (l.length + 1) c') = w4 at hB4 hk4
      have ho4 := own_kp ho3 hk4 hne3
      have hT4 : TabC w4 b (some ⟨t, 0, none⟩) m (l ++ [zeroRow]) (fun i => i = t ∨ (Value.slice A' (l.length + 1) c').ownBlock = some i) := ⟨t, A', c', rfl, hbt, by simpa using hB4, by simpa using ho4, by simpa using hne3, by simp⟩
      have hi4 : (l ++ [zeroRow])[l.length]? = some zeroRow := by simp
      have hmv : Mv (fun i => i = t ∨ (Value.slice A l.length c).ownBlock = some i) w1 w4 (fun i => i = t ∨ (Value.slice A' (l.length + 1) c').ownBlock = some i) := by
        refine (Mv.of_below hal).trans ⟨(hm3.kp.trans (T := fun i => i = t ∨ (Value.slice A l.length c).ownBlock = some i) hk4 (fun _ _ h => .inr h) (fun _ _ h => .inl h)), fun i hi => ?_⟩
        rcases hi with hi | hi
        · exact .inl (.inl hi)
        · exact (hm3.foot i hi).imp .inr id
      refine make_tail hT4 hi4 (by simp; omega) (by decide) fun w' hT' hk => ?_
      have e : (l ++ [zeroRow]).set l.length ⟨zeroRow.gen + 1, true, k, q⟩ = l ++ [⟨1, true, k, q⟩] := by simp [zeroRow]
      rw [e] at hT'
      exact hK w' _ hT' ((Mv.of_below hb1).trans (hmv.trans (Mv.of_kp hk)))
    · rw [if_neg h2]
      rw [if_neg h2, if_neg h2, if_neg h2] at hK
      refine cond_dec (fun _ => hK w1 F hT1 (Mv.of_below hb1)) (fun h => absurd (by decide) h)
/-! ### the code's table: its rows by handles -/
theorem rowAt_lt {l : List Row} {h : Int} {i : Nat} (e : rowAt l h = some i) : ∃ r, l[i]? = some r ∧ i < l.length ∧ r.live = true ∧ h % 65536 = i + 1 ∧ r.gen = h / 65536 := by
  unfold rowAt at e
  split at e
  · rename_i r hr
    split at e
    · rename_i hc
      cases e
      exact ⟨r, hr, (List.getElem?_eq_some_iff.1 hr).1, hc.2.1, by omega, hc.2.2⟩
    · cases e
  · cases e
def getK (l : List Row) (h : Int) : Int := match rowAt l h with | some i => (l.getD i zeroRow).kind | none => 0
def getP (l : List Row) (h : Int) : Int := match rowAt l h with | some i => (l.getD i zeroRow).place | none => 0
def getE (l : List Row) (h : Int) : Int := match rowAt l h with | some _ => 0 | none => 12
def putL (l : List Row) (h q : Int) : List Row := match rowAt l h with | some i => l.set i ⟨(l.getD i zeroRow).gen, (l.getD i zeroRow).live, (l.getD i zeroRow).kind, q⟩ | none => l
def dropL (l : List Row) (h : Int) : List Row := match rowAt l h with | some i => l.set i ⟨(l.getD i zeroRow).gen, false, 0, 0⟩ | none => l
theorem getD_of {l : List Row} {i : Nat} {r : Row} (h : l[i]? = some r) : l.getD i zeroRow = r := by rw [List.getD_eq_getElem?_getD, h]; rfl
theorem handle_Table_row_c {w : World} {b t c : Nat} {A : Option Addr} {m : Nat} {l : List Row} {h : Int} {K : Value → World → Prop} (hB : Blk w t Ty.handle_Table [.int .i64 m, .slice A l.length c]) (ho : w.ownsRow b Ty.api_Row 4 (.slice A l.length c) l.length (l.flatMap Row.cells))
    (hl : l.length ≤ 4096) (hok : ∀ r ∈ l, 0 ≤ r.gen ∧ r.gen ≤ 65535) (h0 : 0 ≤ h) (h1 : h ≤ 18446744073709551615)
    (hN : rowAt l h = none → K (.tuple #[.pointer none, .int .i64 12]) w)
    (hS : ∀ i r a, rowAt l h = some i → l[i]? = some r → A = some a → K (.tuple #[.pointer (some (a.add (i * 4))), .int .i64 0]) w) : CallsE Pg handle_Table_row.N #[.pointer (some ⟨t, 0, none⟩), .int .u64 h] w K := by
  refine handle_Table_row.ok ?_
  show handle_Table_row.p2 K (some ⟨t, 0, none⟩) h (ibits .and .u64 h 65535) w
  rw [and16 h0 h1]
  have c1 := hB.cell' (j := 1) rfl
  refine cond_eq (fun hz => hN ?_) (fun hz => ?_)
  · unfold rowAt
    split
    · rw [if_neg (by omega)]
    · rfl
  refine ⟨_, rfl, _, _, _, c1, ?_⟩
  rw [wrapu64_in (x := (l.length : Int)) (by omega) (by omega)]
  refine cond_dec (fun hgt => hN ?_) (fun hgt => ?_)
  · unfold rowAt
    rw [List.getElem?_eq_none (by omega)]
  obtain ⟨k, hk⟩ : ∃ k : Nat, h % 65536 = k + 1 := ⟨(h % 65536 - 1).toNat, by omega⟩
  have hkl : k < l.length := by omega
  have hxk : l[k]? = some l[k] := List.getElem?_eq_getElem hkl
  obtain ⟨a, rfl, d0, d1, d2, d3⟩ := rows_at (Cs.ofOwn ho) hxk
  have ew : IntKind.wrap .u64 (h % 65536 - 1) = k := by rw [wrapu64_in (by omega) (by omega)]; omega
  have er : rowAt l h = if l[k].live = true ∧ l[k].gen = h / 65536 then some k else none := by
    unfold rowAt
    have : (h % 65536 - 1).toNat = k := by omega
    rw [this, hxk]
    simp only
    by_cases hc : l[k].live = true ∧ l[k].gen = h / 65536
    · rw [if_pos hc, if_pos ⟨by omega, hc⟩]
    · rw [if_neg hc, if_neg (fun hh => hc hh.2)]
  refine ⟨_, rfl, _, _, _, c1, ?_⟩
  rw [ew]
  refine ⟨⟨by omega, by omega⟩, a, rfl, ?_⟩
  show handle_Table_row.p5 K h (a.add (k * 4)) w
  refine ⟨_, rfl, _, d1, ?_⟩
  rw [er] at hN hS
  cases hlv : l[k].live with
  | false => exact hN (by rw [hlv]; simp)
  | true =>
    refine ⟨by decide, _, rfl, _, d0, ?_⟩
    have hg := hok _ (List.getElem_mem hkl)
    rw [shr16 h0, wrapu64_in (x := l[k].gen) (by omega) (by omega)]
    show condP (h / 65536 != l[k].gen) _ _
    refine cond_ne (fun hne => hN (by rw [if_neg (fun hh => hne hh.2.symm)])) (fun he => ?_)
    exact hS k _ a (if_pos ⟨hlv, he.symm⟩) hxk rfl
theorem handle_Table_Get_c {w : World} {b : Nat} {p : Option Addr} {m : Nat} {l : List Row} {F : Nat → Prop} {h : Int} {K : Value → World → Prop} (hT : TabC w b p m l F) (hl : l.length ≤ 4096) (hok : ∀ r ∈ l, 0 ≤ r.gen ∧ r.gen ≤ 65535) (h0 : 0 ≤ h) (h1 : h ≤ 18446744073709551615)
    (hK : K (.tuple #[.int .i64 (getK l h), .int .i64 (getP l h), .int .i64 (getE l h)]) w) : CallsE Pg handle_Table_Get.N #[.pointer p, .int .u64 h] w K := by
  refine handle_Table_Get.ok ?_
  obtain ⟨t, A, c, rfl, hbt, hB, ho, hne, rfl⟩ := hT
  unfold getK getP getE at hK
  refine handle_Table_row_c hB ho hl hok h0 h1 (fun e => ⟨_, _, rfl, ?_⟩) (fun i r a e hr hA => ⟨_, _, rfl, ?_⟩)
  · rw [e] at hK
    exact hK
  · rw [e] at hK
    simp only [getD_of hr] at hK
    subst hA
    obtain ⟨a', e', d0, d1, d2, d3⟩ := rows_at (Cs.ofOwn ho) hr
    cases e'
    exact ⟨_, rfl, _, d2, _, rfl, _, d3, hK⟩
theorem handle_Table_Put_c {w : World} {b : Nat} {p : Option Addr} {m : Nat} {l : List Row} {F : Nat → Prop} {h q : Int} {K : Value → World → Prop} (hT : TabC w b p m l F) (hl : l.length ≤ 4096) (hok : ∀ r ∈ l, 0 ≤ r.gen ∧ r.gen ≤ 65535) (h0 : 0 ≤ h) (h1 : h ≤ 18446744073709551615)
    (hK : ∀ w', TabC w' b p m (putL l h q) F → Kp F w w' → K (.int .i64 (getE l h)) w') : CallsE Pg handle_Table_Put.N #[.pointer p, .int .u64 h, .int .i64 q] w K := by
  refine handle_Table_Put.ok ?_
  have hT' := hT
  obtain ⟨t, A, c, rfl, hbt, hB, ho, hne, rfl⟩ := hT
  unfold putL getE at hK
  refine handle_Table_row_c hB ho hl hok h0 h1 (fun e => ⟨_, _, rfl, ?_⟩) (fun i r a e hr hA => ⟨_, _, rfl, ?_⟩)
  · rw [e] at hK
    exact hK w hT' (Kp.refl _ _)
  · rw [e] at hK
    simp only [getD_of hr] at hK
    subst hA
    refine ⟨_, rfl, ?_⟩
    refine own_stores (m := 4) (f := Row.cells) (x := r) (y := ⟨r.gen, r.live, r.kind, q⟩) (vs := [_]) (i := 3) ho Row.cells_len hr (Nat.le_refl 4) rfl fun w1 ho1 hk1 _ => ?_
    exact hK w1 ⟨t, some a, c, rfl, hbt, by rw [List.length_set]; exact hB.kp hk1 (fun e => hne _ rfl e.symm), by rw [List.length_set]; exact ho1, by rw [List.length_set]; exact hne, by rw [List.length_set]⟩ (hk1.mono fun i _ e => .inr (by rw [e]; rfl))
theorem handle_Table_Drop_c {w : World} {b : Nat} {p : Option Addr} {m : Nat} {l : List Row} {F : Nat → Prop} {h : Int} {K : Value → World → Prop} (hT : TabC w b p m l F) (hl : l.length ≤ 4096) (hok : ∀ r ∈ l, 0 ≤ r.gen ∧ r.gen ≤ 65535) (h0 : 0 ≤ h) (h1 : h ≤ 18446744073709551615)
    (hK : ∀ w', TabC w' b p m (dropL l h) F → Kp F w w' → K (.int .i64 (getE l h)) w') : CallsE Pg handle_Table_Drop.N #[.pointer p, .int .u64 h] w K := by
  refine handle_Table_Drop.ok ?_
  have hT' := hT
  obtain ⟨t, A, c, rfl, hbt, hB, ho, hne, rfl⟩ := hT
  unfold dropL getE at hK
  refine handle_Table_row_c hB ho hl hok h0 h1 (fun e => ⟨_, _, rfl, ?_⟩) (fun i r a e hr hA => ⟨_, _, rfl, ?_⟩)
  · rw [e] at hK
    exact hK w hT' (Kp.refl _ _)
  · rw [e] at hK
    simp only [getD_of hr] at hK
    subst hA
    obtain ⟨a', e', d0, d1, d2, d3⟩ := rows_at (Cs.ofOwn ho) hr
    cases e'
    refine ⟨_, rfl, _, d0, _, rfl, ?_⟩
    refine own_stores (m := 4) (f := Row.cells) (x := r) (y := ⟨r.gen, false, 0, 0⟩) (vs := [_, _, _, _]) (i := 0) ho Row.cells_len hr (Nat.le_refl 4) rfl fun w1 ho1 hk1 _ => ?_
    exact hK w1 ⟨t, some a, c, rfl, hbt, by rw [List.length_set]; exact hB.kp hk1 (fun e => hne _ rfl e.symm), by rw [List.length_set]; exact ho1, by rw [List.length_set]; exact hne, by rw [List.length_set]⟩ (hk1.mono fun i _ e => .inr (by rw [e]; rfl))
theorem mv_below {S S' : Nat → Prop} {w w' : World} (h : Mv S w w' S') (hs : ∀ i, S i → w.heap.size ≤ i) : Below w.heap.size w w' := h.kp.below (Nat.le_refl _) fun i hi hS => by have := hs i hS; omega
theorem handle_Table_Rows_c {w : World} {b : Nat} {p : Option Addr} {m : Nat} {l : List Row} {F : Nat → Prop} {K : Value → World → Prop} (hT : TabC w b p m l F) (hl : l.length ≤ 4096)
    (hK : ∀ A c w', w'.ownsRow w.heap.size Ty.api_Row 4 (.slice A l.length c) l.length (l.flatMap Row.cells) → Below w.heap.size w w' → K (.slice A l.length c) w') : CallsE Pg handle_Table_Rows.N #[.pointer p] w K := by
  refine handle_Table_Rows.ok ?_
  obtain ⟨t, A, c, rfl, hbt, hB, ho, hne, rfl⟩ := hT
  refine condP_f (wlet_intro fun w1 h1 => ?_)
  have hal : Below w.heap.size w w1 := by rw [h1]; exact (Below.refl _ _).alloc (Nat.le_refl _) _
  have hn : w1.ownsRow w.heap.size Ty.api_Row 4 (.slice (some ⟨w.heap.size, 0, none⟩) 0 0) 0 (([] : List Row).flatMap Row.cells) := by rw [h1]; exact own_new (Nat.le_refl _) (Nat.zero_le _) rfl
  clear h1
  refine ⟨_, rfl, _, _, _, (hB.kp (Kp.of_below hal) id).cell' (j := 1) rfl, ?_⟩
  refine app_rows hn rfl ((Cs.ofOwn ho).below hal) (by omega) hal.size fun A' c' w2 ho2 hm2 => ⟨_, _, _, rfl, ?_⟩
  rw [Nat.zero_add] at ho2 ⊢
  exact hK A' c' w2 ho2 (hal.trans (hm2.kp.below hal.size fun i hi e => by cases e; exact absurd hi (Nat.lt_irrefl _)))

/-! handles that live -/
def liveFrom : Nat → List Row → List Int
  | _, [] => []
  | i, r :: rs => if r.live then hdl (i + 1) r.gen :: liveFrom (i + 1) rs else liveFrom (i + 1) rs
theorem liveFrom_len : ∀ (l : List Row) (i : Nat), (liveFrom i l).length ≤ l.length
  | [], _ => Nat.le_refl _
  | r :: rs, i => by
    have := liveFrom_len rs (i + 1)
    unfold liveFrom
    split <;> simp <;> omega
theorem hdl_info : (Pg.info? Ty.api_Handle).map (fun i => (i.zero, i.size, i.bytes)) = some (some (.int .u64 0), 1, 8) := by kernel_rfl
theorem hdls_under : Pg.underlying Ty.sl_api_Handle = some (.slice Ty.api_Handle) := by kernel_rfl
theorem app_hdl {w : World} {base : Nat} {v : Value} {n : Nat} {l : List Int} (hown : w.ownsRow base Ty.api_Handle 1 v n (nums .u64 l)) {g : Nat} {x : Int} (hx : Blk w g Ty.api_Handle [.int .u64 x]) (hn : n ≤ 1000000) (hbase : base ≤ w.heap.size) {K : Value → World → Prop}
    (h : ∀ A' c' w', w'.ownsRow base Ty.api_Handle 1 (.slice A' (n + 1) c') (n + 1) (nums .u64 (l ++ [x])) → Mv (fun g => v.ownBlock = some g) w w' (fun g => (Value.slice A' (n + 1) c').ownBlock = some g) → K (.slice A' (n + 1) c') w') :
    SemJ Pg (Builtin.append_ #[Ty.sl_api_Handle, Ty.sl_api_Handle] Ty.sl_api_Handle #[v, .slice (some ⟨g, 0, none⟩) 1 1]) K w :=
  app_own base hdls_under hdl_info rfl (by decide) hown (m := 1) (news := nums .u64 [x]) rfl (Cs.of_blk0 hx) (nums_one _ _) (by omega) (by decide) hbase fun A' c' w' h1 h2 => h A' c' w' (by rw [nums_app]; exact h1) h2
theorem live_loop {w0 : World} {A : Option Addr} {c : Nat} {l : List Row} {K : Value → World → Prop} (hx : Cs w0 A (l.flatMap Row.cells)) (hl : l.length ≤ 4096)
    (hK : ∀ A' c' w', w'.ownsRow w0.heap.size Ty.api_Handle 1 (.slice A' (liveFrom 0 l).length c') (liveFrom 0 l).length (nums .u64 (liveFrom 0 l)) → Below w0.heap.size w0 w' → K (.slice A' (liveFrom 0 l).length c') w') :
    ∀ (d k : Nat) (w : World) (acc : List Int) (B : Option Addr) (cb : Nat), k + d = l.length → Below w0.heap.size w0 w → w.ownsRow w0.heap.size Ty.api_Handle 1 (.slice B acc.length cb) acc.length (nums .u64 acc) → acc.length ≤ k → acc ++ liveFrom k (l.drop k) = liveFrom 0 l →
    handle_Table_Live.l0 K (d + 1) B acc.length cb A l.length c l.length k w := by
  intro d
  induction d with
  | zero =>
    intro k w acc B cb hk hb ho ha he
    rw [handle_Table_Live.l0_succ]
    show condP (decide ((k : Int) < _)) _ _
    refine cond_dec (fun h => by omega) (fun _ => ?_)
    rw [List.drop_of_length_le (by omega)] at he
    simp only [liveFrom, List.append_nil] at he
    subst he
    exact hK B cb w ho hb
  | succ d ih =>
    intro k w acc B cb hk hb ho ha he
    rw [handle_Table_Live.l0_succ]
    show condP (decide ((k : Int) < _)) _ _
    refine cond_dec (fun _ => ?_) (fun h => absurd h (by omega))
    have hlt : k < l.length := by omega
    have hxk : l[k]? = some l[k] := List.getElem?_eq_getElem hlt
    obtain ⟨a, rfl, c0, c1, c2, c3⟩ := rows_at (hx.below hb) hxk
    refine ⟨⟨by omega, by omega⟩, a, rfl, _, c0, _, c1, _, c2, _, c3, ?_⟩
    refine fresh (vs := l[k].cells) rfl fun w1 hB hb1 _ => ?_
    have hb2 := hb.trans (hb1.mono hb.size)
    have d0 := hB.cell' (j := 0) rfl
    have d1 := hB.cell' (j := 1) rfl
    have ho1 := own_below_kp ho hb1
    rw [List.drop_eq_getElem_cons hlt] at he
    rw [liveFrom] at he
    refine ⟨_, d1, ?_⟩
    cases hlv : l[k].live with
    | false =>
      rw [if_neg (by rw [hlv]; decide)] at he
      show handle_Table_Live.l0 K (d + 1) B acc.length cb (some a) l.length c l.length (IntKind.wrap .i64 ((k : Int) + 1)) w1
      rw [cst k (by omega)]
      exact ih (k + 1) w1 acc B cb (by omega) hb2 ho1 (by omega) he
    | true =>
      rw [if_pos hlv] at he
      refine ⟨_, d0, ?_⟩
      rw [cst k (by omega)]
      refine handle_Of_c ⟨_, rfl, wlet_intro fun w2 h2 => ?_⟩
      have hal : Below w1.heap.size w1 w2 := by rw [h2]; exact (Below.refl _ _).alloc (Nat.le_refl _) _
      have hz : Blk w2 w1.heap.size Ty.api_Handle [.int .u64 (hdl ((k + 1 : Nat) : Int) l[k].gen)] := by rw [h2]; exact Blk.new w1 Ty.api_Handle _
      clear h2
      have hb3 := hb2.trans (hal.mono hb2.size)
      refine app_hdl (own_below_kp ho1 hal) hz (by omega) hb3.size fun A' c' w3 ho3 hm3 => ⟨_, _, _, rfl, ?_⟩
      show handle_Table_Live.l0 K (d + 1) A' (acc.length + 1) c' (some a) l.length c l.length (IntKind.wrap .i64 ((k : Int) + 1)) w3
      rw [cst k (by omega)]
      have e : acc.length + 1 = (acc ++ [hdl ((k + 1 : Nat) : Int) l[k].gen]).length := by simp
      rw [e] at ho3 ⊢
      refine ih (k + 1) w3 _ A' c' (by omega) (hb3.trans (hm3.kp.below hb3.size fun i hi hs => by have := (own_lt ho hs).1; omega)) ho3 (by simp; omega) ?_
      rw [List.append_assoc]
      exact he
theorem handle_Table_Live_c {w : World} {b : Nat} {p : Option Addr} {m : Nat} {l : List Row} {F : Nat → Prop} {K : Value → World → Prop} (hT : TabC w b p m l F) (hl : l.length ≤ 4096)
    (hK : ∀ A c w', w'.ownsRow w.heap.size Ty.api_Handle 1 (.slice A (liveFrom 0 l).length c) (liveFrom 0 l).length (nums .u64 (liveFrom 0 l)) → Below w.heap.size w w' → K (.slice A (liveFrom 0 l).length c) w') : CallsE Pg handle_Table_Live.N #[.pointer p] w K := by
  refine handle_Table_Live.ok (handle_Table_Rows_c hT hl fun A c w1 ho hb => ⟨_, _, _, rfl, l.length + 1, ?_⟩)
  exact live_loop (Cs.ofOwn ho) hl (fun A' c' w' h1 h2 => hK A' c' w' (own_mono h1 hb.size) (hb.trans (h2.mono hb.size))) l.length 0 w1 [] none 0 (by omega) (Below.refl _ _) (World.ownsRow_nil _ _ _ _) (Nat.le_refl _) (by simp)
/-! ### the document's table -/
def pad (m : Nat) (l : List Row) : List Row := l ++ List.replicate (m - l.length) zeroRow
theorem pad_len {m : Nat} {l : List Row} (h : l.length ≤ m) : (pad m l).length = m := by simp [pad]; omega
theorem pad_at {m : Nat} {l : List Row} {k : Nat} (h : k < l.length) : (pad m l)[k]? = l[k]? := List.getElem?_append_left h
theorem pad_zero {m : Nat} {l : List Row} {k : Nat} (h : l.length ≤ k) (hm : k < m) : (pad m l)[k]? = some zeroRow := by
  unfold pad
  rw [List.getElem?_append_right h, List.getElem?_replicate, if_pos (by omega)]
theorem pad_set {m : Nat} {l : List Row} {k : Nat} (y : Row) (h : k < l.length) : (pad m l).set k y = pad m (l.set k y) := by
  unfold pad
  rw [List.set_append_left _ _ h, List.length_set]
theorem pad_snoc {m : Nat} {l : List Row} (y : Row) (h : l.length < m) : (pad m l).set l.length y = pad m (l ++ [y]) := by
  unfold pad
  obtain ⟨n, hn⟩ : ∃ n, m - l.length = n + 1 := ⟨m - l.length - 1, by omega⟩
  rw [List.set_append_right _ _ (Nat.le_refl _), Nat.sub_self, hn, List.replicate_succ, List.set_cons_zero, List.append_assoc, List.length_append, List.length_singleton]
  have : m - (l.length + 1) = n := by omega
  rw [this]; rfl
theorem next_pad {m : Nat} {l : List Row} (h : l.length ≤ m) : nextI (pad m l) = if nextI l < l.length then nextI l else l.length := by
  unfold nextI pad
  rw [List.findIdx_append]
  split
  · rfl
  · cases hn : m - l.length with
    | zero => simp
    | succ n => rw [List.replicate_succ, List.findIdx_cons]; simp [Row.free, zeroRow]
def lastN (L : List Row) : Nat → Nat
  | 0 => 0
  | k + 1 => if 0 < (L.getD k zeroRow).gen then k + 1 else lastN L k
def lastZero (l : List Row) : Bool := match l.getLast? with | some r => r.gen == 0 | none => false
theorem lastN_pad {m : Nat} {l : List Row} (h : l.length ≤ m) (hz : lastZero l = false) (hok : ∀ r ∈ l, 0 ≤ r.gen) : lastN (pad m l) m = l.length := by
  have h0 : lastN (pad m l) l.length = l.length := by
    cases hl : l.length with
    | zero => rfl
    | succ n =>
      have hlt : n < l.length := by omega
      have e1 : l.getLast? = some l[n] := by
        rw [List.getLast?_eq_getElem?, hl, Nat.add_sub_cancel]
        exact List.getElem?_eq_getElem hlt
      unfold lastZero at hz
      rw [e1] at hz
      have hg := hok _ (List.getElem_mem hlt)
      have hz' : l[n].gen ≠ 0 := by simpa using hz
      have e2 : (pad m l).getD n zeroRow = l[n] := getD_of ((pad_at hlt).trans (List.getElem?_eq_getElem hlt))
      unfold lastN
      rw [e2, if_pos (by omega)]
  have hk : ∀ d, l.length + d ≤ m → lastN (pad m l) (l.length + d) = l.length := by
    intro d
    induction d with
    | zero => intro _; exact h0
    | succ d ih =>
      intro hd
      show (if 0 < ((pad m l).getD (l.length + d) zeroRow).gen then l.length + d + 1 else lastN (pad m l) (l.length + d)) = l.length
      rw [getD_of (pad_zero (by omega) (by omega)), if_neg (by decide)]
      exact ih (by omega)
  have := hk (m - l.length) (by omega)
  rwa [show l.length + (m - l.length) = m by omega] at this
theorem live_pad {m : Nat} {l : List Row} : liveFrom 0 (pad m l) = liveFrom 0 l := by
  have hr : ∀ n i, liveFrom i (List.replicate n zeroRow) = [] := by
    intro n
    induction n with
    | zero => intro i; rfl
    | succ n ih => intro i; rw [List.replicate_succ, liveFrom, if_neg (by decide)]; exact ih _
  have : ∀ (l : List Row) i n, liveFrom i (l ++ List.replicate n zeroRow) = liveFrom i l := by
    intro l
    induction l with
    | nil => intro i n; exact hr n i
    | cons r l ih => intro i n; rw [List.cons_append, liveFrom, liveFrom, ih]
  exact this l 0 _
theorem rowAt_iff {l : List Row} {h : Int} {k : Nat} {r : Row} (hk : l[k]? = some r) (hk4 : k < 4096) (hr : r.live = true → 1 ≤ r.gen ∧ r.gen ≤ 65535) : (r.live = true ∧ hdl (k + 1) r.gen = h) ↔ rowAt l h = some k := by
  constructor
  · rintro ⟨hl, rfl⟩
    have hg := hr hl
    have e : hdl (k + 1) r.gen = (k + 1) + 65536 * r.gen := by unfold hdl; rw [if_neg (by omega)]
    rw [e]
    unfold rowAt
    have e1 : ((k : Int) + 1 + 65536 * r.gen) % 65536 = k + 1 := by omega
    have e2 : ((k : Int) + 1 + 65536 * r.gen) / 65536 = r.gen := by omega
    have e3 : ((k : Int) + 1 - 1).toNat = k := by omega
    rw [e1, e2, e3, hk]
    simp only
    rw [if_pos ⟨by omega, hl, trivial⟩]
  · intro e
    obtain ⟨r', hr', _, hl, hm, hg⟩ := rowAt_lt e
    rw [hk] at hr'
    cases hr'
    have hg' := hr hl
    refine ⟨hl, ?_⟩
    unfold hdl
    rw [if_neg (by omega)]
    omega
def TabR (w : World) (b : Nat) (p : Option Addr) (m : Nat) (l : List Row) (F : Nat → Prop) : Prop :=
  ∃ t g, p = some ⟨t, 0, none⟩ ∧ b ≤ t ∧ b ≤ g ∧ t ≠ g ∧ Blk w t Ty.ref12_Table [.slice (some ⟨g, 0, none⟩) m m] ∧ Blk w g Ty.api_Row ((pad m l).flatMap Row.cells) ∧ l.length ≤ m ∧ F = fun i => i = t ∨ i = g
theorem TabR.kp {w w' : World} {b : Nat} {p : Option Addr} {m : Nat} {l : List Row} {F S : Nat → Prop} (h : TabR w b p m l F) (k : Kp S w w') (hd : ∀ i, F i → ¬ S i) : TabR w' b p m l F := by
  obtain ⟨t, g, rfl, hbt, hbg, hne, hB, hG, hl, rfl⟩ := h
  exact ⟨t, g, rfl, hbt, hbg, hne, hB.kp k (hd t (.inl rfl)), hG.kp k (hd g (.inr rfl)), hl, rfl⟩
theorem TabR.lt {w : World} {b : Nat} {p : Option Addr} {m : Nat} {l : List Row} {F : Nat → Prop} (h : TabR w b p m l F) {i : Nat} (hi : F i) : b ≤ i ∧ i < w.heap.size := by
  obtain ⟨t, g, rfl, hbt, hbg, hne, hB, hG, hl, rfl⟩ := h
  rcases hi with rfl | rfl
  · exact ⟨hbt, hB.lt⟩
  · exact ⟨hbg, hG.lt⟩
theorem TabR.below {w w' : World} {b : Nat} {p : Option Addr} {m : Nat} {l : List Row} {F : Nat → Prop} (h : TabR w b p m l F) (k : Below w.heap.size w w') : TabR w' b p m l F := h.kp (Kp.of_below k) (fun _ _ => id)
theorem rnext_loop {w0 : World} {A : Option Addr} {L : List Row} {K : Value → World → Prop} {c : Nat} (hx : Cs w0 A (L.flatMap Row.cells)) (hl : L.length ≤ 4096)
    (hK : ∀ w', Below w0.heap.size w0 w' → K (.int .i64 (if nextI L < L.length then (nextI L : Int) + 1 else 0)) w') : ∀ (d k : Nat) (w : World), k + d = L.length → Below w0.heap.size w0 w → nextI (L.drop k) + k = nextI L →
    ref12_Table_next.l0 K (d + 1) A L.length c L.length k w := by
  intro d
  induction d with
  | zero =>
    intro k w hk hb hn
    rw [ref12_Table_next.l0_succ]
    show condP (decide ((k : Int) < _)) _ _
    refine cond_dec (fun h => by omega) (fun _ => ?_)
    have hK := hK w hb
    rw [if_neg (by omega)] at hK
    exact hK
  | succ d ih =>
    intro k w hk hb hn
    rw [ref12_Table_next.l0_succ]
    show condP (decide ((k : Int) < _)) _ _
    refine cond_dec (fun _ => ?_) (fun h => absurd h (by omega))
    have hlt : k < L.length := by omega
    have hxk : L[k]? = some L[k] := List.getElem?_eq_getElem hlt
    obtain ⟨a, rfl, c0, c1, c2, c3⟩ := rows_at (hx.below hb) hxk
    refine ⟨⟨by omega, by omega⟩, a, rfl, _, c0, _, c1, _, c2, _, c3, ?_⟩
    refine fresh (vs := L[k].cells) rfl fun w1 hB hb1 _ => ?_
    have hb2 := hb.trans (hb1.mono hb.size)
    have d0 := hB.cell' (j := 0) rfl
    have d1 := hB.cell' (j := 1) rfl
    rw [List.drop_eq_getElem_cons hlt] at hn
    unfold nextI at hn
    rw [List.findIdx_cons] at hn
    have next : L[k].free = false → ref12_Table_next.l0 K (d + 1) (some a) L.length c L.length (IntKind.wrap .i64 ((k : Int) + 1)) w1 := fun hf => by
      rw [cst k (by omega)]
      refine ih (k + 1) w1 (by omega) hb2 ?_
      rw [hf] at hn
      unfold nextI
      simp only [cond_false] at hn
      omega
    refine ⟨_, d1, ?_⟩
    cases hlv : L[k].live with
    | true => exact next (by simp [Row.free, hlv])
    | false =>
      refine ⟨_, d0, ?_⟩
      refine cond_dec (fun hg => ?_) (fun hg => next (by simp [Row.free, hlv]; omega))
      have hf : L[k].free = true := by simp [Row.free, hlv, hg]
      rw [hf] at hn
      simp only [cond_true] at hn
      have hK := hK w1 hb2
      rw [if_pos (by unfold nextI; omega)] at hK
      have : nextI L = k := by unfold nextI; omega
      rw [this] at hK
      show K (.int .i64 (IntKind.wrap .i64 ((k : Int) + 1))) w1
      rw [cst k (by omega)]
      exact hK
theorem ref12_Table_next_c {w : World} {b : Nat} {p : Option Addr} {m : Nat} {l : List Row} {F : Nat → Prop} {K : Value → World → Prop} (hT : TabR w b p m l F) (hm : m ≤ 4096)
    (hK : ∀ w', Below w.heap.size w w' → K (.int .i64 (nextV l m + 1)) w') : CallsE Pg ref12_Table_next.N #[.pointer p] w K := by
  refine ref12_Table_next.ok ?_
  obtain ⟨t, g, rfl, hbt, hbg, hne, hB, hG, hl, rfl⟩ := hT
  have hp := pad_len hl
  refine ⟨_, rfl, _, _, _, hB.cell' (j := 0) rfl, m + 1, ?_⟩
  have := rnext_loop (c := m) (K := K) (Cs.of_blk0 hG) (by omega) (fun w' hb => by
    have hK := hK w' hb
    unfold nextV at hK
    rw [next_pad hl, hp]
    by_cases h1 : nextI l < l.length
    · rw [if_pos h1] at hK ⊢
      rw [if_pos (by omega)]
      exact hK
    · rw [if_neg h1] at hK ⊢
      by_cases h2 : l.length < m
      · rw [if_pos h2] at hK ⊢
        exact hK
      · rw [if_neg h2] at hK ⊢
        exact hK) m 0 w (by omega) (Below.refl _ _) (by simp)
  rw [hp] at this
  exact this
theorem ref12_Table_Full_c {w : World} {b : Nat} {p : Option Addr} {m : Nat} {l : List Row} {F : Nat → Prop} {K : Value → World → Prop} (hT : TabR w b p m l F) (hm : m ≤ 4096)
    (hK : ∀ w', Below w.heap.size w w' → K (.bool (decide (nextV l m < 0))) w') : CallsE Pg ref12_Table_Full.N #[.pointer p] w K := by
  refine ref12_Table_Full.ok (ref12_Table_next_c hT hm fun w' hb => ⟨_, rfl, ?_⟩)
  have : (nextV l m + 1 == (0 : Int)) = decide (nextV l m < 0) := by
    have hv : -1 ≤ nextV l m := by unfold nextV; (repeat' split) <;> omega
    by_cases h : nextV l m < 0
    · rw [decide_eq_true h]; simp; omega
    · rw [decide_eq_false h]; simp; omega
  rw [this]
  exact hK w' hb
def fndV (l : List Row) (h : Int) : Int := match rowAt l h with | some i => (i : Int) + 1 | none => 0
theorem fndV_some {l : List Row} {h : Int} {i : Nat} (e : rowAt l h = some i) : fndV l h = (i : Int) + 1 := by unfold fndV; rw [e]
theorem fndV_none {l : List Row} {h : Int} (e : rowAt l h = none) : fndV l h = 0 := by unfold fndV; rw [e]
theorem rfind_loop {w0 : World} {A : Option Addr} {l : List Row} {m : Nat} {h : Int} {K : Value → World → Prop} {c : Nat} (hx : Cs w0 A ((pad m l).flatMap Row.cells)) (hl : l.length ≤ m) (hm : m ≤ 4096) (hok : ∀ r ∈ l, r.live = true → 1 ≤ r.gen ∧ r.gen ≤ 65535)
    (hK : ∀ w', Below w0.heap.size w0 w' → K (.int .i64 (fndV l h)) w') : ∀ (d k : Nat) (w : World), k + d = m → Below w0.heap.size w0 w → (∀ j, j < k → rowAt l h ≠ some j) →
    ref12_Table_Find.l0 K (d + 1) h A m c m k w := by
  intro d
  induction d with
  | zero =>
    intro k w hk hb hn
    rw [ref12_Table_Find.l0_succ]
    show condP (decide ((k : Int) < _)) _ _
    refine cond_dec (fun h => by omega) (fun _ => ?_)
    have hK := hK w hb
    have : rowAt l h = none := by
      cases e : rowAt l h with
      | none => rfl
      | some i =>
        obtain ⟨_, _, hi, _⟩ := rowAt_lt e
        exact absurd e (hn i (by omega))
    rw [fndV_none this] at hK
    exact hK
  | succ d ih =>
    intro k w hk hb hn
    rw [ref12_Table_Find.l0_succ]
    show condP (decide ((k : Int) < _)) _ _
    refine cond_dec (fun _ => ?_) (fun h => absurd h (by omega))
    have hlt : k < (pad m l).length := by rw [pad_len hl]; omega
    have hxk : (pad m l)[k]? = some (pad m l)[k] := List.getElem?_eq_getElem hlt
    generalize (pad m l)[k] = r at hxk
    obtain ⟨a, rfl, c0, c1, c2, c3⟩ := rows_at (hx.below hb) hxk
    refine ⟨⟨by omega, by omega⟩, a, rfl, _, c0, _, c1, _, c2, _, c3, ?_⟩
    refine fresh (vs := r.cells) rfl fun w1 hB hb1 _ => ?_
    have hb2 := hb.trans (hb1.mono hb.size)
    have d0 := hB.cell' (j := 0) rfl
    have d1 := hB.cell' (j := 1) rfl
    have next : rowAt l h ≠ some k → ref12_Table_Find.l0 K (d + 1) h (some a) m c m (IntKind.wrap .i64 ((k : Int) + 1)) w1 := fun hf => by
      rw [cst k (by omega)]
      refine ih (k + 1) w1 (by omega) hb2 fun j hj => ?_
      rcases Nat.lt_or_ge j k with h | h
      · exact hn j h
      · rw [show j = k by omega]; exact hf
    have hkl : r.live = true → l[k]? = some r ∧ k < l.length := fun hlv => by
      rcases Nat.lt_or_ge k l.length with h | h
      · rw [pad_at h] at hxk; exact ⟨hxk, h⟩
      · rw [pad_zero h (by omega)] at hxk
        cases hxk
        cases hlv
    refine ⟨_, d1, ?_⟩
    cases hlv : r.live with
    | false =>
      refine next fun e => ?_
      obtain ⟨r', hr', hi, hl', _⟩ := rowAt_lt e
      rw [pad_at hi, hr'] at hxk
      cases hxk
      rw [hlv] at hl'
      cases hl'
    | true =>
      obtain ⟨hlk, hkl2⟩ := hkl hlv
      have hiff := rowAt_iff (h := h) hlk (by omega) (hok r (List.mem_of_getElem? hlk))
      refine ⟨_, d0, ?_⟩
      rw [cst k (by omega)]
      refine ref12_Of_c ⟨_, rfl, ?_⟩
      refine cond_eq (fun he => ?_) (fun he => next fun e => he (by have := (hiff.2 e).2; simpa using this))
      have hK := hK w1 hb2
      rw [fndV_some (hiff.1 ⟨hlv, by simpa using he⟩)] at hK
      show K (.int .i64 (IntKind.wrap .i64 ((k : Int) + 1))) w1
      rw [cst k (by omega)]
      exact hK
theorem ref12_Table_Find_c {w : World} {b : Nat} {p : Option Addr} {m : Nat} {l : List Row} {F : Nat → Prop} {h : Int} {K : Value → World → Prop} (hT : TabR w b p m l F) (hm : m ≤ 4096) (hok : ∀ r ∈ l, r.live = true → 1 ≤ r.gen ∧ r.gen ≤ 65535)
    (hK : ∀ w', Below w.heap.size w w' → K (.int .i64 (fndV l h)) w') : CallsE Pg ref12_Table_Find.N #[.pointer p, .int .u64 h] w K := by
  refine ref12_Table_Find.ok ?_
  obtain ⟨t, g, rfl, hbt, hbg, hne, hB, hG, hl, rfl⟩ := hT
  refine ⟨_, rfl, _, _, _, hB.cell' (j := 0) rfl, m + 1, ?_⟩
  exact rfind_loop (Cs.of_blk0 hG) hl hm hok hK m 0 w (by omega) (Below.refl _ _) (fun j hj => by omega)
/-! ### the document's table: what is turned -/
theorem made_flat {f : Row → List Value} {m : Nat} (hm : ∀ x, (f x).length = m) (hp : 0 < m) (x : Row) (n : Nat) : (madeCells ⟨f x⟩ (n * m)).toList = (List.replicate n x).flatMap f := by
  apply List.ext_getElem?
  intro j
  rcases Nat.lt_or_ge j (n * m) with hj | hj
  · have hq : j / m < n := Nat.div_lt_of_lt_mul (by rw [Nat.mul_comm]; exact hj)
    have hr : j % m < m := Nat.mod_lt _ hp
    have hv : (f x)[j % m]? = some ((f x)[j % m]'(by rw [hm]; exact hr)) := List.getElem?_eq_getElem _
    have := flat_at hm (l := List.replicate n x) (k := j / m) (j := j % m) (x := x) (by rw [List.getElem?_replicate, if_pos hq]) hv
    rw [Nat.div_add_mod'] at this
    rw [this]
    unfold madeCells
    simp only [Array.toList_map, List.getElem?_map, Array.toList_range, List.getElem?_range hj, Option.map_some, List.size_toArray, hm]
    congr 1
    have hs : j % m < (⟨f x⟩ : Array Value).size := by simpa [hm] using hr
    rw [getElem!_pos (⟨f x⟩ : Array Value) (j % m) hs]
    rfl
  · rw [List.getElem?_eq_none (by simp [size_madeCells]; exact hj), List.getElem?_eq_none (by rw [flat_len hm]; simpa using hj)]
theorem mkE_eq (l : List Row) (m : Nat) : mkE l m = if nextV l m < 0 then 7 else 0 := by
  unfold mkE nextV
  (repeat' split) <;> omega
theorem ref12_Table_Make_c {w : World} {b : Nat} {p : Option Addr} {m : Nat} {l : List Row} {F : Nat → Prop} {k q : Int} {K : Value → World → Prop} (hT : TabR w b p m l F) (hm : m ≤ 4096) (hok : ∀ r ∈ l, 0 ≤ r.gen ∧ r.gen ≤ 65535)
    (hK : ∀ w', TabR w' b p m (mkL l m k q) F → Mv F w w' F → K (.tuple #[.int .u64 (mkH l m), .int .i64 (mkE l m)]) w') : CallsE Pg ref12_Table_Make.N #[.pointer p, .int .i64 k, .int .i64 q] w K := by
  refine ref12_Table_Make.ok (ref12_Table_next_c hT hm fun w1 hb1 => ⟨_, rfl, ?_⟩)
  have hT1 := hT.below hb1
  have tail : ∀ (i : Nat) (r : Row) (l' : List Row), (pad m l)[i]? = some r → 0 ≤ r.gen → r.gen < 65535 → l'.length ≤ m → (pad m l).set i ⟨r.gen + 1, true, k, q⟩ = pad m l' → mkL l m k q = l' → mkH l m = hdl (i + 1) (r.gen + 1) → mkE l m = 0 → i < m → ref12_Table_Make.p1 K p k q ((i : Int) + 1) w1 := by
    intro i r l' hi hg0 hg1 hl' hs e1 e2 e3 him
    rw [e1, e2, e3] at hK
    obtain ⟨t, g, rfl, hbt, hbg, hne, hB, hG, hl, rfl⟩ := hT1
    refine cond_eq (fun h => by omega) (fun _ => ?_)
    have c0 := hB.cell' (j := 0) rfl
    obtain ⟨a, e, d0, _⟩ := rows_at (Cs.of_blk0 hG) hi
    cases e
    have ew : IntKind.wrap .i64 ((i : Int) + 1 - 1) = i := by rw [wrap64_in (by omega) (by omega)]; omega
    rw [show ref12_Table_Make.p2 K (some ⟨t, 0, none⟩) k q ((i : Int) + 1) w1 = ref12_Table_Make.p2 K (some ⟨t, 0, none⟩) k q ((i : Int) + 1) w1 from rfl]
    unfold ref12_Table_Make.p2
    rw [ew]
    refine ⟨fun H => H = w1.heap, rfl, _, rfl, _, rfl, _, _, _, held c0, _, _, _, held c0, ⟨by omega, by omega⟩, _, rfl, _, held d0, rfl, ⟨by omega, by omega⟩, _, rfl, ?_⟩
    rw [wrap64_in (x := r.gen + 1) (by omega) (by omega)]
    refine blk_stores (m := 4) (k := i) (f := Row.cells) (x := r) (y := ⟨r.gen + 1, true, k, q⟩) (vs := [_, _, _, _]) (i := 0) hG Row.cells_len hi (Nat.le_refl 4) rfl fun w2 hG2 hk2 _ => ?_
    have hB2 := hB.kp hk2 hne
    have c0 := hB2.cell' (j := 0) rfl
    have hi2 : ((pad m l).set i ⟨r.gen + 1, true, k, q⟩)[i]? = some ⟨r.gen + 1, true, k, q⟩ := List.getElem?_set_self (List.getElem?_eq_some_iff.1 hi).1
    obtain ⟨a, e, d0, _⟩ := rows_at (Cs.of_blk0 hG2) hi2
    cases e
    rw [ew]
    refine ⟨_, rfl, _, _, _, c0, ⟨by omega, by omega⟩, _, rfl, _, d0, ref12_Of_c ⟨_, rfl, ?_⟩⟩
    rw [hs] at hG2
    exact hK w2 ⟨t, g, rfl, hbt, hbg, hne, hB2, hG2, hl', rfl⟩ ((Mv.of_below hb1).trans (Mv.of_kp (hk2.mono fun _ _ e => .inr e)))
  have hll : l.length ≤ m := by obtain ⟨t, g, _, _, _, _, _, _, hl, _⟩ := hT; exact hl
  by_cases h1 : nextI l < l.length
  · have hgi : l[nextI l]? = some l[nextI l] := List.getElem?_eq_getElem h1
    have hfr : l[nextI l].free = true := List.findIdx_getElem (w := h1)
    have hgd := getD_of hgi
    have hg := hok _ (List.getElem_mem h1)
    have hg2 : l[nextI l].gen < 65535 := by
      unfold Row.free at hfr
      rw [Bool.and_eq_true] at hfr
      exact of_decide_eq_true hfr.2
    have ev : nextV l m = nextI l := by unfold nextV; rw [if_pos h1]
    rw [ev]
    refine tail (nextI l) _ (l.set (nextI l) ⟨l[nextI l].gen + 1, true, k, q⟩) ((pad_at h1).trans hgi) hg.1 hg2 (by simpa using hll) (pad_set _ h1) ?_ ?_ ?_ (by omega)
    · unfold mkL; rw [if_pos h1, hgd]
    · unfold mkH; rw [if_pos h1, hgd]
    · unfold mkE; rw [if_pos h1]
  · by_cases h2 : l.length < m
    · have ev : nextV l m = l.length := by unfold nextV; rw [if_neg h1, if_pos h2]
      rw [ev]
      refine tail l.length zeroRow (l ++ [⟨1, true, k, q⟩]) (pad_zero (Nat.le_refl _) h2) (by decide) (by decide) (by simp; omega) (pad_snoc _ h2) ?_ ?_ ?_ h2
      · unfold mkL; rw [if_neg h1, if_pos h2]
      · unfold mkH; rw [if_neg h1, if_pos h2]; rfl
      · unfold mkE; rw [if_neg h1, if_pos h2]
    · have ev : nextV l m = -1 := by unfold nextV; rw [if_neg h1, if_neg h2]
      rw [ev]
      unfold mkL mkH mkE at hK
      rw [if_neg h1, if_neg h2, if_neg h1, if_neg h2, if_neg h1, if_neg h2] at hK
      exact cond_eq (fun _ => hK w1 hT1 (Mv.of_below hb1)) (fun h => absurd rfl h)
theorem ref12_Table_Get_c {w : World} {b : Nat} {p : Option Addr} {m : Nat} {l : List Row} {F : Nat → Prop} {h : Int} {K : Value → World → Prop} (hT : TabR w b p m l F) (hm : m ≤ 4096) (hok : ∀ r ∈ l, r.live = true → 1 ≤ r.gen ∧ r.gen ≤ 65535)
    (hK : ∀ w', Below w.heap.size w w' → K (.tuple #[.int .i64 (getK l h), .int .i64 (getP l h), .int .i64 (getE l h)]) w') : CallsE Pg ref12_Table_Get.N #[.pointer p, .int .u64 h] w K := by
  refine ref12_Table_Get.ok (ref12_Table_Find_c hT hm hok fun w1 hb1 => ⟨_, rfl, ?_⟩)
  have hK := hK w1 hb1
  unfold getK getP getE at hK
  cases e : rowAt l h with
  | none =>
    rw [e] at hK
    rw [fndV_none e]
    exact cond_eq (fun _ => hK) (fun h => absurd rfl h)
  | some i =>
    rw [e] at hK
    obtain ⟨r, hr, hi, _⟩ := rowAt_lt e
    simp only [getD_of hr] at hK
    obtain ⟨t, g, rfl, hbt, hbg, hne, hB, hG, hl, rfl⟩ := hT.below hb1
    have c0 := hB.cell' (j := 0) rfl
    obtain ⟨a, e', d0, d1, d2, d3⟩ := rows_at (Cs.of_blk0 hG) ((pad_at hi).trans hr)
    cases e'
    have ew : IntKind.wrap .i64 ((i : Int) + 1 - 1) = i := by rw [wrap64_in (by omega) (by omega)]; omega
    rw [fndV_some e]
    refine cond_eq (fun h => by omega) (fun _ => ?_)
    rw [ew]
    exact ⟨_, rfl, _, _, _, c0, ⟨by omega, by omega⟩, _, rfl, _, d2, _, rfl, _, _, _, c0, ⟨by omega, by omega⟩, _, rfl, _, d3, hK⟩
theorem ref12_Table_Put_c {w : World} {b : Nat} {p : Option Addr} {m : Nat} {l : List Row} {F : Nat → Prop} {h q : Int} {K : Value → World → Prop} (hT : TabR w b p m l F) (hm : m ≤ 4096) (hok : ∀ r ∈ l, r.live = true → 1 ≤ r.gen ∧ r.gen ≤ 65535)
    (hK : ∀ w', TabR w' b p m (putL l h q) F → Mv F w w' F → K (.int .i64 (getE l h)) w') : CallsE Pg ref12_Table_Put.N #[.pointer p, .int .u64 h, .int .i64 q] w K := by
  refine ref12_Table_Put.ok (ref12_Table_Find_c hT hm hok fun w1 hb1 => ⟨_, rfl, ?_⟩)
  have hT1 := hT.below hb1
  unfold putL getE at hK
  cases e : rowAt l h with
  | none =>
    rw [e] at hK
    rw [fndV_none e]
    exact cond_eq (fun _ => hK w1 hT1 (Mv.of_below hb1)) (fun h => absurd rfl h)
  | some i =>
    rw [e] at hK
    obtain ⟨r, hr, hi, _⟩ := rowAt_lt e
    simp only [getD_of hr] at hK
    obtain ⟨t, g, rfl, hbt, hbg, hne, hB, hG, hl, rfl⟩ := hT1
    have c0 := hB.cell' (j := 0) rfl
    have ew : IntKind.wrap .i64 ((i : Int) + 1 - 1) = i := by rw [wrap64_in (by omega) (by omega)]; omega
    rw [fndV_some e]
    refine cond_eq (fun h => by omega) (fun _ => ?_)
    rw [ew]
    refine ⟨_, rfl, _, _, _, c0, ⟨by omega, by omega⟩, _, rfl, ?_⟩
    refine blk_stores (m := 4) (k := i) (f := Row.cells) (x := r) (y := ⟨r.gen, r.live, r.kind, q⟩) (vs := [_]) (i := 3) hG Row.cells_len ((pad_at hi).trans hr) (Nat.le_refl 4) rfl fun w2 hG2 hk2 _ => ?_
    rw [pad_set _ hi] at hG2
    exact hK w2 ⟨t, g, rfl, hbt, hbg, hne, hB.kp hk2 hne, hG2, by simpa using hl, rfl⟩ ((Mv.of_below hb1).trans (Mv.of_kp (hk2.mono fun _ _ e => .inr e)))
theorem ref12_Table_Drop_c {w : World} {b : Nat} {p : Option Addr} {m : Nat} {l : List Row} {F : Nat → Prop} {h : Int} {K : Value → World → Prop} (hT : TabR w b p m l F) (hm : m ≤ 4096) (hok : ∀ r ∈ l, r.live = true → 1 ≤ r.gen ∧ r.gen ≤ 65535)
    (hK : ∀ w', TabR w' b p m (dropL l h) F → Mv F w w' F → K (.int .i64 (getE l h)) w') : CallsE Pg ref12_Table_Drop.N #[.pointer p, .int .u64 h] w K := by
  refine ref12_Table_Drop.ok (ref12_Table_Find_c hT hm hok fun w1 hb1 => ⟨_, rfl, ?_⟩)
  have hT1 := hT.below hb1
  unfold dropL getE at hK
  cases e : rowAt l h with
  | none =>
    rw [e] at hK
    rw [fndV_none e]
    exact cond_eq (fun _ => hK w1 hT1 (Mv.of_below hb1)) (fun h => absurd rfl h)
  | some i =>
    rw [e] at hK
    obtain ⟨r, hr, hi, _⟩ := rowAt_lt e
    simp only [getD_of hr] at hK
    obtain ⟨t, g, rfl, hbt, hbg, hne, hB, hG, hl, rfl⟩ := hT1
    have c0 := hB.cell' (j := 0) rfl
    obtain ⟨a, e', d0, _⟩ := rows_at (Cs.of_blk0 hG) ((pad_at hi).trans hr)
    cases e'
    have ew : IntKind.wrap .i64 ((i : Int) + 1 - 1) = i := by rw [wrap64_in (by omega) (by omega)]; omega
    rw [fndV_some e]
    refine cond_eq (fun h => by omega) (fun _ => ?_)
    unfold ref12_Table_Drop.p2
    rw [ew]
    refine ⟨fun H => H = w1.heap, rfl, _, rfl, _, rfl, _, _, _, held c0, _, _, _, held c0, ⟨by omega, by omega⟩, _, rfl, _, held d0, rfl, ⟨by omega, by omega⟩, _, rfl, ?_⟩
    refine blk_stores (m := 4) (k := i) (f := Row.cells) (x := r) (y := ⟨r.gen, false, 0, 0⟩) (vs := [_, _, _, _]) (i := 0) hG Row.cells_len ((pad_at hi).trans hr) (Nat.le_refl 4) rfl fun w2 hG2 hk2 _ => ?_
    rw [pad_set _ hi] at hG2
    exact hK w2 ⟨t, g, rfl, hbt, hbg, hne, hB.kp hk2 hne, hG2, by simpa using hl, rfl⟩ ((Mv.of_below hb1).trans (Mv.of_kp (hk2.mono fun _ _ e => .inr e)))
/-! ### the document's table: what is told -/
theorem rrows_loop {w0 : World} {t g : Nat} {m : Nat} {L : List Row} {K : Value → World → Prop} (hB : Blk w0 t Ty.ref12_Table [.slice (some ⟨g, 0, none⟩) m m]) (hG : Blk w0 g Ty.api_Row (L.flatMap Row.cells)) (hl : L.length = m) (hm : m ≤ 4096) (hm0 : 0 < m)
    (hK : ∀ A c w', w'.ownsRow w0.heap.size Ty.api_Row 4 (.slice A (lastN L m) c) (lastN L m) ((L.take (lastN L m)).flatMap Row.cells) → Below w0.heap.size w0 w' → K (.slice A (lastN L m) c) w') :
    ∀ (d k : Nat) (w : World), k + d = m → Below w0.heap.size w0 w → ref12_Table_Rows.l0 K (d + 1) (some ⟨t, 0, none⟩) (lastN L k) (some ⟨g, 0, none⟩) m m m k w := by
  have hln : ∀ k, lastN L k ≤ k := by
    intro k
    induction k with
    | zero => exact Nat.le_refl _
    | succ k ih => unfold lastN; split <;> omega
  intro d
  induction d with
  | zero =>
    intro k w hk hb
    obtain rfl : k = m := by omega
    rw [ref12_Table_Rows.l0_succ]
    show condP (decide ((k : Int) < _)) _ _
    refine cond_dec (fun h => by omega) (fun _ => ?_)
    have hn := hln k
    refine wlet_intro fun w1 h1 => ?_
    have hal : Below w.heap.size w w1 := by rw [h1]; exact (Below.refl _ _).alloc (Nat.le_refl _) _
    have hnew : w1.ownsRow w0.heap.size Ty.api_Row 4 (.slice (some ⟨w.heap.size, 0, none⟩) 0 0) 0 (([] : List Row).flatMap Row.cells) := by rw [h1]; exact own_new hb.size (Nat.zero_le _) rfl
    clear h1
    have hb1 := hb.trans (hal.mono hb.size)
    refine ⟨_, rfl, _, _, _, (hB.kp (Kp.of_below hb1) id).cell' (j := 0) rfl, ⟨by omega, by omega⟩, ?_⟩
    have hA : slA (some ⟨g, 0, none⟩) 0 k 4 = some ⟨g, 0, none⟩ := by unfold slA; rw [if_neg (by omega)]; simp [Addr.add]
    rw [hA]
    have hc : Cs w1 (some ⟨g, 0, none⟩) ((L.take (lastN L k)).flatMap Row.cells) := by
      have := (Cs.of_blk0 (hG.kp (Kp.of_below hb1) id)).take (lastN L k * 4)
      have e : (L.flatMap Row.cells).take (lastN L k * 4) = (L.take (lastN L k)).flatMap Row.cells := by
        generalize lastN L k = q at hn
        have e2 : L.flatMap Row.cells = (L.take q).flatMap Row.cells ++ (L.drop q).flatMap Row.cells := by rw [← List.flatMap_append, List.take_append_drop]
        rw [e2]
        exact List.take_left' (by rw [flat_len Row.cells_len, List.length_take, Nat.min_eq_left (by omega)])
      rw [e] at this
      exact this
    have hlen : ((lastN L k : Nat) : Int).toNat - 0 = (L.take (lastN L k)).length := by rw [List.length_take]; omega
    refine app_rows hnew hlen hc (by rw [hlen, List.length_take]; omega) hb1.size fun A' c' w2 ho2 hm2 => ⟨_, _, _, rfl, ?_⟩
    have he : 0 + (((lastN L k : Nat) : Int).toNat - 0) = lastN L k := by omega
    rw [he] at ho2 ⊢
    exact hK A' c' w2 ho2 (hb1.trans (hm2.kp.below hb1.size fun i hi e => by cases e; exact absurd hi (Nat.not_lt.2 hb.size)))
  | succ d ih =>
    intro k w hk hb
    rw [ref12_Table_Rows.l0_succ]
    show condP (decide ((k : Int) < _)) _ _
    refine cond_dec (fun _ => ?_) (fun h => absurd h (by omega))
    have hlt : k < L.length := by omega
    have hxk : L[k]? = some L[k] := List.getElem?_eq_getElem hlt
    obtain ⟨a, e, c0, c1, c2, c3⟩ := rows_at ((Cs.of_blk0 hG).below hb) hxk
    cases e
    refine ⟨⟨by omega, by omega⟩, _, rfl, _, c0, _, c1, _, c2, _, c3, ?_⟩
    refine fresh (vs := L[k].cells) rfl fun w1 hB1 hb1 _ => ?_
    have hb2 := hb.trans (hb1.mono hb.size)
    have d0 := hB1.cell' (j := 0) rfl
    have e1 : lastN L (k + 1) = if 0 < L[k].gen then k + 1 else lastN L k := by
      show (if 0 < (L.getD k zeroRow).gen then k + 1 else lastN L k) = _
      rw [getD_of hxk]
    have := ih (k + 1) w1 (by omega) hb2
    rw [e1] at this
    refine ⟨_, d0, cond_dec (fun hg => ?_) (fun hg => ?_)⟩
    · rw [if_pos hg] at this
      show ref12_Table_Rows.l0 K (d + 1) _ (IntKind.wrap .i64 ((k : Int) + 1)) _ _ _ _ (IntKind.wrap .i64 ((k : Int) + 1)) w1
      rw [cst k (by omega)]
      exact this
    · rw [if_neg hg] at this
      show ref12_Table_Rows.l0 K (d + 1) _ _ _ _ _ _ (IntKind.wrap .i64 ((k : Int) + 1)) w1
      rw [cst k (by omega)]
      exact this
theorem ref12_Table_Rows_c {w : World} {b : Nat} {p : Option Addr} {m : Nat} {l : List Row} {F : Nat → Prop} {K : Value → World → Prop} (hT : TabR w b p m l F) (hm : m ≤ 4096) (hm0 : 0 < m) (hz : lastZero l = false) (hok : ∀ r ∈ l, 0 ≤ r.gen)
    (hK : ∀ A c w', w'.ownsRow w.heap.size Ty.api_Row 4 (.slice A l.length c) l.length (l.flatMap Row.cells) → Below w.heap.size w w' → K (.slice A l.length c) w') : CallsE Pg ref12_Table_Rows.N #[.pointer p] w K := by
  refine ref12_Table_Rows.ok ?_
  obtain ⟨t, g, rfl, hbt, hbg, hne, hB, hG, hl, rfl⟩ := hT
  refine ⟨_, rfl, _, _, _, hB.cell' (j := 0) rfl, m + 1, ?_⟩
  have e := lastN_pad hl hz hok
  have e2 : (pad m l).take l.length = l := by unfold pad; exact List.take_left
  exact rrows_loop hB hG (pad_len hl) hm hm0 (by rw [e, e2]; exact hK) m 0 w (by omega) (Below.refl _ _)
theorem rlive_loop {w0 : World} {A : Option Addr} {c : Nat} {l : List Row} {K : Value → World → Prop} (hx : Cs w0 A (l.flatMap Row.cells)) (hl : l.length ≤ 4096)
    (hK : ∀ A' c' w', w'.ownsRow w0.heap.size Ty.api_Handle 1 (.slice A' (liveFrom 0 l).length c') (liveFrom 0 l).length (nums .u64 (liveFrom 0 l)) → Below w0.heap.size w0 w' → K (.slice A' (liveFrom 0 l).length c') w') :
    ∀ (d k : Nat) (w : World) (acc : List Int) (B : Option Addr) (cb : Nat), k + d = l.length → Below w0.heap.size w0 w → w.ownsRow w0.heap.size Ty.api_Handle 1 (.slice B acc.length cb) acc.length (nums .u64 acc) → acc.length ≤ k → acc ++ liveFrom k (l.drop k) = liveFrom 0 l →
    ref12_Table_Live.l0 K (d + 1) B acc.length cb A l.length c l.length k w := by
  intro d
  induction d with
  | zero =>
    intro k w acc B cb hk hb ho ha he
    rw [ref12_Table_Live.l0_succ]
    show condP (decide ((k : Int) < _)) _ _
    refine cond_dec (fun h => by omega) (fun _ => ?_)
    rw [List.drop_of_length_le (by omega)] at he
    simp only [liveFrom, List.append_nil] at he
    subst he
    exact hK B cb w ho hb
  | succ d ih =>
    intro k w acc B cb hk hb ho ha he
    rw [ref12_Table_Live.l0_succ]
    show condP (decide ((k : Int) < _)) _ _
    refine cond_dec (fun _ => ?_) (fun h => absurd h (by omega))
    have hlt : k < l.length := by omega
    have hxk : l[k]? = some l[k] := List.getElem?_eq_getElem hlt
    obtain ⟨a, rfl, c0, c1, c2, c3⟩ := rows_at (hx.below hb) hxk
    refine ⟨⟨by omega, by omega⟩, a, rfl, _, c0, _, c1, _, c2, _, c3, ?_⟩
    refine fresh (vs := l[k].cells) rfl fun w1 hB hb1 _ => ?_
    have hb2 := hb.trans (hb1.mono hb.size)
    have d0 := hB.cell' (j := 0) rfl
    have d1 := hB.cell' (j := 1) rfl
    have ho1 := own_below_kp ho hb1
    rw [List.drop_eq_getElem_cons hlt] at he
    rw [liveFrom] at he
    refine ⟨_, d1, ?_⟩
    cases hlv : l[k].live with
    | false =>
      rw [if_neg (by rw [hlv]; decide)] at he
      show ref12_Table_Live.l0 K (d + 1) B acc.length cb (some a) l.length c l.length (IntKind.wrap .i64 ((k : Int) + 1)) w1
      rw [cst k (by omega)]
      exact ih (k + 1) w1 acc B cb (by omega) hb2 ho1 (by omega) he
    | true =>
      rw [if_pos hlv] at he
      refine ⟨_, d0, ?_⟩
      rw [cst k (by omega)]
      refine ref12_Of_c ⟨_, rfl, wlet_intro fun w2 h2 => ?_⟩
      have hal : Below w1.heap.size w1 w2 := by rw [h2]; exact (Below.refl _ _).alloc (Nat.le_refl _) _
      have hz : Blk w2 w1.heap.size Ty.api_Handle [.int .u64 (hdl ((k + 1 : Nat) : Int) l[k].gen)] := by rw [h2]; exact Blk.new w1 Ty.api_Handle _
      clear h2
      have hb3 := hb2.trans (hal.mono hb2.size)
      refine app_hdl (own_below_kp ho1 hal) hz (by omega) hb3.size fun A' c' w3 ho3 hm3 => ⟨_, _, _, rfl, ?_⟩
      show ref12_Table_Live.l0 K (d + 1) A' (acc.length + 1) c' (some a) l.length c l.length (IntKind.wrap .i64 ((k : Int) + 1)) w3
      rw [cst k (by omega)]
      have e : acc.length + 1 = (acc ++ [hdl ((k + 1 : Nat) : Int) l[k].gen]).length := by simp
      rw [e] at ho3 ⊢
      refine ih (k + 1) w3 _ A' c' (by omega) (hb3.trans (hm3.kp.below hb3.size fun i hi hs => by have := (own_lt ho hs).1; omega)) ho3 (by simp; omega) ?_
      rw [List.append_assoc]
      exact he
theorem ref12_Table_Live_c {w : World} {b : Nat} {p : Option Addr} {m : Nat} {l : List Row} {F : Nat → Prop} {K : Value → World → Prop} (hT : TabR w b p m l F) (hm : m ≤ 4096)
    (hK : ∀ A c w', w'.ownsRow w.heap.size Ty.api_Handle 1 (.slice A (liveFrom 0 l).length c) (liveFrom 0 l).length (nums .u64 (liveFrom 0 l)) → Below w.heap.size w w' → K (.slice A (liveFrom 0 l).length c) w') : CallsE Pg ref12_Table_Live.N #[.pointer p] w K := by
  refine ref12_Table_Live.ok ?_
  obtain ⟨t, g, rfl, hbt, hbg, hne, hB, hG, hl, rfl⟩ := hT
  refine ⟨_, rfl, _, _, _, hB.cell' (j := 0) rfl, m + 1, ?_⟩
  have hp := pad_len hl
  have := rlive_loop (c := m) (K := K) (Cs.of_blk0 hG) (by omega) (by rw [live_pad]; exact hK) m 0 w [] none 0 (by omega) (Below.refl _ _) (World.ownsRow_nil _ _ _ _) (Nat.le_refl _) (by simp)
  rw [hp] at this
  exact this

/-! the same rows, the same handles -/
theorem same_loop {w : World} {A B : Option Addr} {n c d : Nat} {l : List Row} {K : Value → World → Prop} (hx : Cs w A (l.flatMap Row.cells)) (hy : Cs w B (l.flatMap Row.cells)) (hn : n = l.length) (hl : n ≤ 1000000000000000) (hK : K (.bool true) w) : ∀ (j k : Nat), k + j = n →
    ref12_Same.l0 K (j + 1) A n c B n d n k w := by
  intro j
  induction j with
  | zero =>
    intro k hk
    rw [ref12_Same.l0_succ]
    exact cond_dec (fun h => by omega) (fun _ => hK)
  | succ j ih =>
    intro k hk
    rw [ref12_Same.l0_succ]
    refine cond_dec (fun _ => ?_) (fun h => absurd h (by omega))
    have hxk : l[k]? = some l[k] := List.getElem?_eq_getElem (by omega)
    obtain ⟨a, rfl, c0, c1, c2, c3⟩ := rows_at hx hxk
    obtain ⟨b, rfl, d0, d1, d2, d3⟩ := rows_at hy hxk
    refine ⟨⟨by omega, by omega⟩, a, rfl, _, c0, _, c1, _, c2, _, c3, ⟨by omega, by omega⟩, b, rfl, _, d0, _, d1, _, d2, _, d3, _, (row_eq l[k] l[k]).2, ?_⟩
    have e : (!l[k].same l[k]) = false := by rw [Row.same_iff.2 rfl]; rfl
    rw [e]
    refine condP_f ?_
    rw [cst k (by omega)]
    exact ih (k + 1) (by omega)
theorem ref12_Same_c {w : World} {A B : Option Addr} {n n' c d : Nat} {l : List Row} {K : Value → World → Prop} (hx : Cs w A (l.flatMap Row.cells)) (hy : Cs w B (l.flatMap Row.cells)) (hn : n = l.length) (hn' : n' = l.length) (hl : n ≤ 1000000000000000) (hK : K (.bool true) w) : CallsE Pg ref12_Same.N #[.slice A n c, .slice B n' d] w K := by
  obtain rfl : n' = n := by omega
  refine ref12_Same.ok (cond_ne (fun h => absurd rfl h) (fun _ => ⟨n' + 1, ?_⟩))
  exact same_loop hx hy hn hl hK n' 0 (by omega)
theorem handles_loop {w : World} {A B : Option Addr} {n c d : Nat} {l : List Int} {K : Value → World → Prop} (hx : Cs w A (nums .u64 l)) (hy : Cs w B (nums .u64 l)) (hn : n = l.length) (hl : n ≤ 1000000000000000) (hK : K (.bool true) w) : ∀ (j k : Nat), k + j = n →
    ref12_Handles.l0 K (j + 1) A n c B n d n k w := by
  intro j
  induction j with
  | zero =>
    intro k hk
    rw [ref12_Handles.l0_succ]
    exact cond_dec (fun h => by omega) (fun _ => hK)
  | succ j ih =>
    intro k hk
    rw [ref12_Handles.l0_succ]
    refine cond_dec (fun _ => ?_) (fun h => absurd h (by omega))
    have hxk : l[k]? = some l[k] := List.getElem?_eq_getElem (by omega)
    obtain ⟨a, rfl, c0⟩ := hx.at (nums_at hxk)
    obtain ⟨b, rfl, d0⟩ := hy.at (nums_at hxk)
    refine ⟨⟨by omega, by omega⟩, a, rfl, _, c0, ⟨by omega, by omega⟩, b, rfl, _, d0, cond_ne (fun h => absurd rfl h) (fun _ => ?_)⟩
    rw [cst k (by omega)]
    exact ih (k + 1) (by omega)
theorem ref12_Handles_c {w : World} {A B : Option Addr} {n n' c d : Nat} {l : List Int} {K : Value → World → Prop} (hx : Cs w A (nums .u64 l)) (hy : Cs w B (nums .u64 l)) (hn : n = l.length) (hn' : n' = l.length) (hl : n ≤ 1000000000000000) (hK : K (.bool true) w) : CallsE Pg ref12_Handles.N #[.slice A n c, .slice B n' d] w K := by
  obtain rfl : n' = n := by omega
  refine ref12_Handles.ok (cond_ne (fun h => absurd rfl h) (fun _ => ⟨n' + 1, ?_⟩))
  exact handles_loop hx hy hn hl hK n' 0 (by omega)
/-! ### tables out of rows -/
def fromE (most : Int) (l : List Row) : Int := if most < 1 ∨ 4096 < most then 2 else if most < l.length ∨ lastZero l = true ∨ l.all Row.right = false then 4 else 0
theorem from_loop {w0 : World} {A : Option Addr} {n c : Nat} {l : List Row} {most : Int} {K : Value → World → Prop} (hx : Cs w0 A (l.flatMap Row.cells)) (hn : n = l.length) (hl : n ≤ 1000000000000000)
    (hbad : l.all Row.right = false → ∀ w', Below w0.heap.size w0 w' → K (.tuple #[.pointer none, .int .i64 4]) w') (hgood : l.all Row.right = true → ∀ w', Below w0.heap.size w0 w' → handle_From.p7 K most A n c w') :
    ∀ (d k : Nat) (w : World), k + d = n → Below w0.heap.size w0 w → l.all Row.right = (l.drop k).all Row.right → handle_From.l0 K (d + 1) most A n c A n c n k w := by
  intro d
  induction d with
  | zero =>
    intro k w hk hb ha
    rw [handle_From.l0_succ]
    show condP (decide ((k : Int) < _)) _ _
    refine cond_dec (fun h => by omega) (fun _ => ?_)
    rw [List.drop_of_length_le (by omega)] at ha
    exact hgood ha w hb
  | succ d ih =>
    intro k w hk hb ha
    rw [handle_From.l0_succ]
    show condP (decide ((k : Int) < _)) _ _
    refine cond_dec (fun _ => ?_) (fun h => absurd h (by omega))
    have hlt : k < l.length := by omega
    have hxk : l[k]? = some l[k] := List.getElem?_eq_getElem hlt
    obtain ⟨a, rfl, c0, c1, c2, c3⟩ := rows_at (hx.below hb) hxk
    refine ⟨⟨by omega, by omega⟩, a, rfl, _, c0, _, c1, _, c2, _, c3, ?_⟩
    refine fresh (vs := l[k].cells) rfl fun w1 hB1 hb1 _ => ?_
    have hb2 := hb.trans (hb1.mono hb.size)
    refine ⟨_, hB1.cell' (j := 0) rfl, _, hB1.cell' (j := 1) rfl, _, hB1.cell' (j := 2) rfl, _, hB1.cell' (j := 3) rfl, ?_⟩
    refine handle_right_c (r := l[k]) fun w2 hb3 => ⟨_, rfl, ?_⟩
    have hb4 := hb2.trans (hb3.mono hb2.size)
    rw [List.drop_eq_getElem_cons hlt, List.all_cons] at ha
    cases hr : l[k].right with
    | false =>
      rw [hr, Bool.false_and] at ha
      exact hbad ha w2 hb4
    | true =>
      rw [hr, Bool.true_and] at ha
      refine condP_nt ?_
      rw [cst k (by omega)]
      exact ih (k + 1) w2 (by omega) hb4 ha
theorem handle_From_c {w : World} {A : Option Addr} {n c : Nat} {l : List Row} {most : Int} {K : Value → World → Prop} (hx : Cs w A (l.flatMap Row.cells)) (hn : n = l.length) (hs : n * 32 ≤ 140737488351232)
    (hE : fromE most l ≠ 0 → ∀ w', Below w.heap.size w w' → K (.tuple #[.pointer none, .int .i64 (fromE most l)]) w')
    (hK : fromE most l = 0 → ∀ w' p F, TabC w' w.heap.size p most.toNat l F → Below w.heap.size w w' → K (.tuple #[.pointer p, .int .i64 0]) w') : CallsE Pg handle_From.N #[.int .i64 most, .slice A n c] w K := by
  refine handle_From.ok ?_
  have e2 : (most < 1 ∨ 4096 < most) → handle_From.p1 K most A n c true w := fun h => by
    have : fromE most l = 2 := by unfold fromE; rw [if_pos h]
    rw [this] at hE
    exact hE (by decide) w (Below.refl _ _)
  refine cond_dec (fun h1 => e2 (.inl h1)) (fun h1 => ?_)
  by_cases h2 : 4096 < most
  · rw [decide_eq_true h2]; exact e2 (.inr h2)
  rw [decide_eq_false h2]
  refine condP_f ?_
  show handle_From.p3 K most A n c n w
  have e4 : (most < l.length ∨ lastZero l = true ∨ l.all Row.right = false) → ∀ w', Below w.heap.size w w' → K (.tuple #[.pointer none, .int .i64 4]) w' := fun h => by
    have : fromE most l = 4 := by unfold fromE; rw [if_neg (by omega), if_pos h]
    rw [this] at hE
    exact hE (by decide)
  refine cond_dec (fun h3 => e4 (.inl (by omega)) w (Below.refl _ _)) (fun h3 => ?_)
  have go : lastZero l = false → handle_From.p4 K most A n c false w := fun hz => by
    refine condP_f ?_
    refine ⟨n + 1, ?_⟩
    refine from_loop hx hn (by omega) (fun h => e4 (.inr (.inr h))) (fun hr w1 hb1 => ?_) n 0 w (by omega) (Below.refl _ _) (by simp)
    have e0 : fromE most l = 0 := by unfold fromE; rw [if_neg (by omega), if_neg (by rw [hz, hr]; simp; omega)]
    refine wlet_intro fun w2 h2 => ?_
    have hal : Below w1.heap.size w1 w2 := by rw [h2]; exact (Below.refl _ _).alloc (Nat.le_refl _) _
    have hnew : w2.ownsRow w.heap.size Ty.api_Row 4 (.slice (some ⟨w1.heap.size, 0, none⟩) 0 0) 0 (([] : List Row).flatMap Row.cells) := by rw [h2]; exact own_new hb1.size (Nat.zero_le _) rfl
    clear h2
    have hb2 := hb1.trans (hal.mono hb1.size)
    refine app_rows hnew hn (hx.below hb2) (by omega) hb2.size fun A' c' w3 ho3 hm3 => ⟨_, _, _, rfl, ?_⟩
    have hb3 := hb2.trans (hm3.kp.below hb2.size fun i hi e => by cases e; exact absurd hi (Nat.not_lt.2 hb1.size))
    refine wlet_intro fun w4 h4 => ?_
    rw [Nat.zero_add, List.nil_append, hn] at ho3
    rw [Nat.zero_add, hn] at h4
    have hal4 : Below w3.heap.size w3 w4 := by rw [h4]; exact (Below.refl _ _).alloc (Nat.le_refl _) _
    have hB : Blk w4 w3.heap.size Ty.handle_Table [.int .i64 most, .slice A' l.length c'] := by rw [h4]; exact Blk.new w3 Ty.handle_Table _
    clear h4
    refine hK e0 w4 _ (fun i => i = w3.heap.size ∨ (Value.slice A' l.length c').ownBlock = some i) ⟨w3.heap.size, A', c', rfl, hb3.size, by rw [Int.toNat_of_nonneg (by omega)]; exact hB, own_below_kp ho3 hal4, fun g hg e => ?_, rfl⟩ (hb3.trans (hal4.mono hb3.size))
    have := (own_lt ho3 hg).2
    omega
  refine cond_dec (fun h5 => ?_) (fun h5 => go ?_)
  · have ew : IntKind.wrap .i64 ((n : Int) - 1) = ((n - 1 : Nat) : Int) := by rw [wrap64_in (by omega) (by omega)]; omega
    have hlt : n - 1 < l.length := by omega
    have hxk : l[n - 1]? = some l[n - 1] := List.getElem?_eq_getElem hlt
    obtain ⟨a, rfl, c0, c1, c2, c3⟩ := rows_at hx hxk
    rw [ew]
    refine ⟨⟨by omega, by omega⟩, a, rfl, _, c0, ?_⟩
    have ez : lastZero l = (l[n - 1].gen == 0) := by
      unfold lastZero
      rw [List.getLast?_eq_getElem?, ← hn, hxk]
    rw [← ez]
    cases hz : lastZero l with
    | true => exact e4 (.inr (.inl hz)) w (Below.refl _ _)
    | false => exact go hz
  · have : l = [] := List.eq_nil_of_length_eq_zero (by omega)
    rw [this]; rfl
theorem handle_New_c {w : World} {most : Nat} {K : Value → World → Prop} (h1 : 1 ≤ most) (h2 : most ≤ 4096)
    (hK : ∀ w' p F, TabC w' w.heap.size p most [] F → Below w.heap.size w w' → K (.tuple #[.pointer p, .int .i64 0]) w') : CallsE Pg handle_New.N #[.int .i64 most] w K := by
  have e : fromE most [] = 0 := by unfold fromE; rw [if_neg (by omega), if_neg (by simp [lastZero])]
  refine handle_New.ok (handle_From_c (l := []) (Cs.nil _ _) rfl (by decide) (fun h => absurd e h) fun _ w' p F hT hb => ⟨_, _, rfl, hK w' p F (by simpa using hT) hb⟩)

/-! the document's -/
theorem take_pad {m k : Nat} {l : List Row} (hk : k < l.length) (hm : l.length ≤ m) : (pad m (l.take k)).set k l[k] = pad m (l.take (k + 1)) := by
  rw [take_snoc (List.getElem?_eq_getElem hk)]
  have := pad_snoc (m := m) (l := l.take k) l[k] (by rw [List.length_take]; omega)
  rw [List.length_take, Nat.min_eq_left (by omega)] at this
  exact this
theorem rfrom_loop {wi w0 : World} {A : Option Addr} {n c t g m : Nat} {l : List Row} {K : Value → World → Prop} {b : Nat} (hb0 : b ≤ w0.heap.size) (hx : Cs wi A (l.flatMap Row.cells)) (hbi : b = wi.heap.size) (hwi : Below b wi w0) (hn : n = l.length) (hl : n ≤ m) (hm : m ≤ 4096) (hbt : b ≤ t) (hbg : b ≤ g) (hne : t ≠ g)
    (hbad : l.all Row.right = false → ∀ w', Below b w0 w' → K (.tuple #[.pointer none, .int .i64 4]) w')
    (hgood : l.all Row.right = true → ∀ w', Below b w0 w' → Blk w' t Ty.ref12_Table [.slice (some ⟨g, 0, none⟩) m m] → Blk w' g Ty.api_Row ((pad m l).flatMap Row.cells) → ref12_From.p12 K A n c ⟨t, 0, none⟩ w') :
    ∀ (d k : Nat) (w : World), k + d = n → Below b w0 w → Blk w t Ty.ref12_Table [.slice (some ⟨g, 0, none⟩) m m] → Blk w g Ty.api_Row ((pad m (l.take k)).flatMap Row.cells) → l.all Row.right = (l.drop k).all Row.right → ref12_From.l0 K (d + 1) A n c ⟨t, 0, none⟩ A n c n k w := by
  intro d
  induction d with
  | zero =>
    intro k w hk hb hB hG ha
    rw [ref12_From.l0_succ]
    show condP (decide ((k : Int) < _)) _ _
    refine cond_dec (fun h => by omega) (fun _ => ?_)
    rw [List.drop_of_length_le (by omega)] at ha
    rw [List.take_of_length_le (by omega)] at hG
    exact hgood ha w hb hB hG
  | succ d ih =>
    intro k w hk hb hB hG ha
    rw [ref12_From.l0_succ]
    show condP (decide ((k : Int) < _)) _ _
    refine cond_dec (fun _ => ?_) (fun h => absurd h (by omega))
    have hlt : k < l.length := by omega
    have hxk : l[k]? = some l[k] := List.getElem?_eq_getElem hlt
    have hxw : Cs w A (l.flatMap Row.cells) := hx.below (by rw [← hbi]; exact hwi.trans hb)
    obtain ⟨a, rfl, c0, c1, c2, c3⟩ := rows_at hxw hxk
    refine ⟨⟨by omega, by omega⟩, a, rfl, _, c0, _, c1, _, c2, _, c3, ?_⟩
    refine fresh (vs := l[k].cells) rfl fun w1 hB1 hb1 _ => ?_
    have hbw : b ≤ w.heap.size := Nat.le_trans hb0 hb.size
    have hb2 : Below b w0 w1 := hb.trans (hb1.mono hbw)
    have hBt := hB.kp (Kp.of_below hb1) id
    have hGt := hG.kp (Kp.of_below hb1) id
    have hfr : w.heap.size ≠ t ∧ w.heap.size ≠ g := ⟨fun e => by have := hB.lt; omega, fun e => by have := hG.lt; omega⟩
    rw [List.drop_eq_getElem_cons hlt, List.all_cons] at ha
    have d0 := hB1.cell' (j := 0) rfl
    have d1 := hB1.cell' (j := 1) rfl
    have d2 := hB1.cell' (j := 2) rfl
    have d3 := hB1.cell' (j := 3) rfl
    have bad : l[k].right = false → K (.tuple #[.pointer none, .int .i64 4]) w1 := fun hr => by
      rw [hr, Bool.false_and] at ha
      exact hbad ha w1 hb2
    have good : l[k].right = true → ref12_From.p10 (ref12_From.l0 K (d + 1)) K (some a) n c ⟨t, 0, none⟩ k ⟨w.heap.size, 0, none⟩ (some a) n c n k w1 := fun hr => by
      rw [hr, Bool.true_and] at ha
      refine ⟨fun H => H = w1.heap, rfl, _, rfl, _, _, _, held (hBt.cell' (j := 0) rfl), _, held d0, _, held d1, _, held d2, _, held d3, ⟨by omega, by omega⟩, _, rfl, ?_⟩
      have hkm : (pad m (l.take k))[k]? = some zeroRow := pad_zero (by rw [List.length_take]; omega) (by omega)
      refine blk_stores (m := 4) (k := k) (f := Row.cells) (x := zeroRow) (y := l[k]) (vs := [_, _, _, _]) (i := 0) hGt Row.cells_len hkm (Nat.le_refl 4) rfl fun w2 hG2 hk2 hs2 => ?_
      show ref12_From.l0 K (d + 1) (some a) n c ⟨t, 0, none⟩ (some a) n c n (IntKind.wrap .i64 ((k : Int) + 1)) w2
      rw [cst k (by omega)]
      rw [take_pad hlt (by omega)] at hG2
      exact ih (k + 1) w2 (by omega) (hb2.trans (hk2.below (Nat.le_trans hbw hb1.size) fun i hi e => by omega)) (hBt.kp hk2 hne) hG2 ha
    unfold Row.right at bad good
    have eg : ∀ x : Bool, l[k].live = x → ((l[k].gen < 0 ∨ 65535 < l[k].gen ∨ (x = true ∧ l[k].gen = 0) ∨ (x = false ∧ (l[k].kind ≠ 0 ∨ l[k].place ≠ 0))) → l[k].right = false) ∧ (¬(l[k].gen < 0 ∨ 65535 < l[k].gen ∨ (x = true ∧ l[k].gen = 0) ∨ (x = false ∧ (l[k].kind ≠ 0 ∨ l[k].place ≠ 0))) → l[k].right = true) := by
      intro x hx
      unfold Row.right
      rw [hx]
      cases x with
      | true => simp; omega
      | false =>
        simp
        refine ⟨fun h h1 h2 h3 => by omega, fun h1 h2 h3 h4 => ?_⟩
        omega
    change l[k].right = false → _ at bad
    change l[k].right = true → _ at good
    refine ⟨_, d0, cond_dec (fun h => bad ((eg _ rfl).1 (.inl h))) (fun g1 => ⟨_, d0, cond_dec (fun h => bad ((eg _ rfl).1 (.inr (.inl h)))) (fun g2 => ⟨_, d1, ?_⟩)⟩)⟩
    cases hlv : l[k].live with
    | true =>
      rw [hlv] at d1
      refine ⟨_, d0, cond_eq (fun h => bad ((eg _ hlv).1 (.inr (.inr (.inl ⟨rfl, h⟩))))) (fun g3 => ⟨_, d1, ?_⟩)⟩
      exact good ((eg _ hlv).2 (by
        rintro (h | h | ⟨_, h⟩ | ⟨h, _⟩)
        · exact g1 h
        · exact g2 h
        · exact g3 h
        · cases h))
    | false =>
      rw [hlv] at d1
      refine ⟨_, d1, ?_⟩
      refine condP_t ?_
      refine ⟨_, d2, cond_ne (fun h => bad ((eg _ hlv).1 (.inr (.inr (.inr ⟨rfl, .inl h⟩))))) (fun g3 => ⟨_, d3, ?_⟩)⟩
      by_cases g4 : l[k].place = 0
      · have : (l[k].place != 0) = false := by rw [g4]; rfl
        rw [this]
        exact good ((eg _ hlv).2 (by rintro (h | h | h | h) <;> simp_all))
      · have : (l[k].place != 0) = true := by simpa using g4
        rw [this]
        exact bad ((eg _ hlv).1 (.inr (.inr (.inr ⟨rfl, .inr g4⟩))))
theorem ref12_From_c {w : World} {A : Option Addr} {n c : Nat} {l : List Row} {most : Int} {K : Value → World → Prop} (hx : Cs w A (l.flatMap Row.cells)) (hn : n = l.length) (hs : n * 32 ≤ 140737488351232)
    (hE : fromE most l ≠ 0 → ∀ w', Below w.heap.size w w' → K (.tuple #[.pointer none, .int .i64 (fromE most l)]) w')
    (hK : fromE most l = 0 → ∀ w' p F, TabR w' w.heap.size p most.toNat l F → Below w.heap.size w w' → K (.tuple #[.pointer p, .int .i64 0]) w') : CallsE Pg ref12_From.N #[.int .i64 most, .slice A n c] w K := by
  refine ref12_From.ok ?_
  have e2 : (most < 1 ∨ 4096 < most) → ref12_From.p1 K most A n c true w := fun h => by
    have : fromE most l = 2 := by unfold fromE; rw [if_pos h]
    rw [this] at hE
    exact hE (by decide) w (Below.refl _ _)
  refine cond_dec (fun h1 => e2 (.inl h1)) (fun h1 => ?_)
  by_cases h2 : 4096 < most
  · rw [decide_eq_true h2]; exact e2 (.inr h2)
  rw [decide_eq_false h2]
  refine condP_f ?_
  have e4 : (most < l.length ∨ lastZero l = true ∨ l.all Row.right = false) → ∀ w', Below w.heap.size w w' → K (.tuple #[.pointer none, .int .i64 4]) w' := fun h => by
    have : fromE most l = 4 := by unfold fromE; rw [if_neg (by omega), if_pos h]
    rw [this] at hE
    exact hE (by decide)
  refine cond_dec (fun h3 => e4 (.inl (by omega)) w (Below.refl _ _)) (fun h3 => ?_)
  obtain ⟨m, rfl⟩ : ∃ m : Nat, most = m := ⟨most.toNat, by omega⟩
  refine ⟨⟨by omega, by omega, by omega, by omega⟩, wlet_intro fun w1 h1' => wlet_intro fun w2 h2' => ?_⟩
  have hG1 : Blk w1 w.heap.size Ty.api_Row ((pad m ([] : List Row)).flatMap Row.cells) := by
    have e : (madeCells ⟨zeroRow.cells⟩ (m * 4)) = ⟨(pad m ([] : List Row)).flatMap Row.cells⟩ := by
      rw [← Array.toList_inj, made_flat Row.cells_len (by decide)]
      simp [pad]
    have h1'' : w1 = w.alloc (.cells (madeCells ⟨zeroRow.cells⟩ (m * 4)) Ty.api_Row) := h1'
    rw [h1'', e]
    exact Blk.new w _ _
  have hal1 : Below w.heap.size w w1 := by rw [h1']; exact (Below.refl _ _).alloc (Nat.le_refl _) _
  have hlt1 := hG1.lt
  clear h1'
  have hB2 : Blk w2 w1.heap.size Ty.ref12_Table [.slice (some ⟨w.heap.size, 0, none⟩) m m] := by rw [h2']; exact Blk.new w1 Ty.ref12_Table _
  have hal2 : Below w1.heap.size w1 w2 := by rw [h2']; exact (Below.refl _ _).alloc (Nat.le_refl _) _
  clear h2'
  have hG2 := hG1.kp (Kp.of_below hal2) id
  have hb2 := hal1.trans (hal2.mono hal1.size)
  show ref12_From.p4 K A n c ⟨w1.heap.size, 0, none⟩ w2
  refine ⟨n + 1, ?_⟩
  refine rfrom_loop (b := w.heap.size) hb2.size hx rfl hb2 hn (by omega) (by omega) hal1.size (Nat.le_refl _) (by omega) (fun h w' hb => e4 (.inr (.inr h)) w' (hb2.trans hb)) (fun hr w' hb hB hG => ?_) n 0 w2 (by omega) (Below.refl _ _) hB2 (by simpa using hG2) (by simp)
  have fin : ref12_From.p13 K ⟨w1.heap.size, 0, none⟩ (lastZero l) w' := by
    cases hz : lastZero l with
    | true => exact e4 (.inr (.inl hz)) w' (hb2.trans hb)
    | false =>
      have e0 : fromE m l = 0 := by unfold fromE; rw [if_neg (by omega), if_neg (by rw [hz, hr]; simp; omega)]
      exact hK e0 w' _ (fun i => i = w1.heap.size ∨ i = w.heap.size) ⟨_, _, rfl, hal1.size, Nat.le_refl _, by omega, hB, hG, by simp; omega, rfl⟩ (hb2.trans hb)
  refine cond_dec (fun h5 => ?_) (fun h5 => ?_)
  · have ew : IntKind.wrap .i64 ((n : Int) - 1) = ((n - 1 : Nat) : Int) := by rw [wrap64_in (by omega) (by omega)]; omega
    have hlt : n - 1 < l.length := by omega
    have hxk : l[n - 1]? = some l[n - 1] := List.getElem?_eq_getElem hlt
    obtain ⟨a, rfl, c0, c1, c2, c3⟩ := rows_at (hx.below (hb2.trans hb)) hxk
    rw [ew]
    refine ⟨⟨by omega, by omega⟩, a, rfl, _, c0, ?_⟩
    have ez : lastZero l = (l[n - 1].gen == 0) := by
      unfold lastZero
      rw [List.getLast?_eq_getElem?, ← hn, hxk]
    rw [← ez]
    exact fin
  · have : l = [] := List.eq_nil_of_length_eq_zero (by omega)
    rw [this] at fin
    exact fin
/-! ### both tables, and the handles that were made -/
structure OkT (m : Nat) (l : List Row) : Prop where
  len : l.length ≤ m
  m4 : m ≤ 4096
  m0 : 0 < m
  gens : ∀ r ∈ l, 0 ≤ r.gen ∧ r.gen ≤ 65535
  lives : ∀ r ∈ l, r.live = true → 1 ≤ r.gen ∧ r.gen ≤ 65535
  last : lastZero l = false
theorem lastZero_set {l : List Row} {i : Nat} {y : Row} (h : lastZero l = false) (hy : ∀ r, l[i]? = some r → r.gen ≠ 0 → y.gen ≠ 0) : lastZero (l.set i y) = false := by
  unfold lastZero at h ⊢
  rw [List.getLast?_eq_getElem?] at h ⊢
  rw [List.length_set, List.getElem?_set]
  by_cases hi : i = l.length - 1
  · rw [if_pos hi]
    by_cases hl : l.length = 0
    · rw [if_neg (by omega)]
    · rw [if_pos (by omega)]
      have hx : l[l.length - 1]? = some l[l.length - 1] := List.getElem?_eq_getElem (by omega)
      rw [hx] at h
      have := hy _ (by rw [hi]; exact hx) (by simpa using h)
      simpa using this
  · rw [if_neg hi]
    exact h
theorem OkT.set {m : Nat} {l : List Row} (h : OkT m l) {i : Nat} {r y : Row} (hr : l[i]? = some r) (h0 : 0 ≤ y.gen ∧ y.gen ≤ 65535) (h1 : y.live = true → 1 ≤ y.gen) (h2 : r.gen ≠ 0 → y.gen ≠ 0) : OkT m (l.set i y) :=
  ⟨by simpa using h.len, h.m4, h.m0, fun x hx => by
    rcases List.mem_or_eq_of_mem_set hx with hx | rfl
    · exact h.gens x hx
    · exact h0, fun x hx hl => by
    rcases List.mem_or_eq_of_mem_set hx with hx | rfl
    · exact h.lives x hx hl
    · exact ⟨h1 hl, h0.2⟩, lastZero_set h.last fun r' hr' => by rw [hr] at hr'; cases hr'; exact h2⟩
theorem nextI_row {l : List Row} (h : nextI l < l.length) : ∃ r, l[nextI l]? = some r ∧ r.live = false ∧ r.gen < 65535 := by
  have hfr : l[nextI l].free = true := List.findIdx_getElem (w := h)
  refine ⟨_, List.getElem?_eq_getElem h, ?_⟩
  unfold Row.free at hfr
  rw [Bool.and_eq_true] at hfr
  exact ⟨by simpa using hfr.1, of_decide_eq_true hfr.2⟩
theorem OkT.made {m : Nat} {l : List Row} (h : OkT m l) (k q : Int) : OkT m (mkL l m k q) := by
  unfold mkL
  by_cases h1 : nextI l < l.length
  · rw [if_pos h1]
    obtain ⟨r, hr, _, hg⟩ := nextI_row h1
    rw [getD_of hr]
    have h0 := h.gens r (List.mem_of_getElem? hr)
    exact h.set hr (by simp only; omega) (fun _ => by simp only; omega) (fun _ => by simp only; omega)
  · rw [if_neg h1]
    by_cases h2 : l.length < m
    · rw [if_pos h2]
      refine ⟨by simp; omega, h.m4, h.m0, fun x hx => ?_, fun x hx hl => ?_, by simp [lastZero]⟩
      · rcases List.mem_append.1 hx with hx | hx
        · exact h.gens x hx
        · rw [List.mem_singleton.1 hx]; exact (show (0 : Int) ≤ 1 ∧ (1 : Int) ≤ 65535 by decide)
      · rcases List.mem_append.1 hx with hx | hx
        · exact h.lives x hx hl
        · rw [List.mem_singleton.1 hx]; exact (show (1 : Int) ≤ 1 ∧ (1 : Int) ≤ 65535 by decide)
    · rw [if_neg h2]; exact h
theorem OkT.putted {m : Nat} {l : List Row} (h : OkT m l) (x q : Int) : OkT m (putL l x q) := by
  unfold putL
  split
  · rename_i i e
    obtain ⟨r, hr, _⟩ := rowAt_lt e
    rw [getD_of hr]
    exact h.set hr (h.gens r (List.mem_of_getElem? hr)) (fun hl => (h.lives r (List.mem_of_getElem? hr) hl).1) id
  · exact h
theorem OkT.dropped {m : Nat} {l : List Row} (h : OkT m l) (x : Int) : OkT m (dropL l x) := by
  unfold dropL
  split
  · rename_i i e
    obtain ⟨r, hr, _⟩ := rowAt_lt e
    rw [getD_of hr]
    exact h.set hr (h.gens r (List.mem_of_getElem? hr)) (fun hl => by cases hl) id
  · exact h
def U64 (h : Int) : Prop := 0 ≤ h ∧ h ≤ 18446744073709551615
theorem hdl_u64 (i g : Int) : U64 (hdl i g) := by
  unfold hdl U64
  split <;> omega
theorem mkH_u64 (l : List Row) (m : Nat) : U64 (mkH l m) := by
  unfold mkH
  (repeat' split)
  · exact hdl_u64 _ _
  · exact hdl_u64 _ _
  · exact ⟨by decide, by decide⟩
def MadeV (w : World) (b : Nat) (a : Addr) (hs : List Int) (G : Nat → Prop) : Prop :=
  ∃ t A c, a = ⟨t, 0, none⟩ ∧ b ≤ t ∧ Blk w t Ty.sl_api_Handle [.slice A hs.length c] ∧ w.ownsRow b Ty.api_Handle 1 (.slice A hs.length c) hs.length (nums .u64 hs) ∧ (∀ g, (Value.slice A hs.length c).ownBlock = some g → g ≠ t) ∧ G = fun i => i = t ∨ (Value.slice A hs.length c).ownBlock = some i
theorem MadeV.kp {w w' : World} {b : Nat} {a : Addr} {hs : List Int} {G S : Nat → Prop} (h : MadeV w b a hs G) (k : Kp S w w') (hd : ∀ i, G i → ¬ S i) : MadeV w' b a hs G := by
  obtain ⟨t, A, c, rfl, hbt, hB, ho, hne, rfl⟩ := h
  exact ⟨t, A, c, rfl, hbt, hB.kp k (hd t (.inl rfl)), own_kp ho k (fun g hg => hd g (.inr hg)), hne, rfl⟩
theorem MadeV.lt {w : World} {b : Nat} {a : Addr} {hs : List Int} {G : Nat → Prop} (h : MadeV w b a hs G) {i : Nat} (hi : G i) : b ≤ i ∧ i < w.heap.size := by
  obtain ⟨t, A, c, rfl, hbt, hB, ho, hne, rfl⟩ := h
  rcases hi with rfl | hi
  · exact ⟨hbt, hB.lt⟩
  · exact own_lt ho hi
theorem TabC.base {w : World} {b b' : Nat} {p : Option Addr} {m : Nat} {l : List Row} {F : Nat → Prop} (h : TabC w b p m l F) (hb : b' ≤ b) : TabC w b' p m l F := by
  obtain ⟨t, A, c, rfl, hbt, hB, ho, hne, rfl⟩ := h
  exact ⟨t, A, c, rfl, Nat.le_trans hb hbt, hB, own_mono ho hb, hne, rfl⟩
theorem TabR.base {w : World} {b b' : Nat} {p : Option Addr} {m : Nat} {l : List Row} {F : Nat → Prop} (h : TabR w b p m l F) (hb : b' ≤ b) : TabR w b' p m l F := by
  obtain ⟨t, g, rfl, hbt, hbg, hne, hB, hG, hl, rfl⟩ := h
  exact ⟨t, g, rfl, Nat.le_trans hb hbt, Nat.le_trans hb hbg, hne, hB, hG, hl, rfl⟩
/-- Both tables tell the rows l; the handles hs were made. -/
def DS (w : World) (b : Nat) (p q : Option Addr) (a : Addr) (m : Nat) (l : List Row) (hs : List Int) : Prop :=
  ∃ Fc Fr G : Nat → Prop, TabC w b p m l Fc ∧ TabR w b q m l Fr ∧ MadeV w b a hs G ∧ (∀ i, Fc i → ¬ Fr i) ∧ (∀ i, Fc i → ¬ G i) ∧ (∀ i, Fr i → ¬ G i) ∧ OkT m l ∧ (∀ h ∈ hs, U64 h)
theorem DS.below {w w' : World} {b : Nat} {p q : Option Addr} {a : Addr} {m : Nat} {l : List Row} {hs : List Int} (h : DS w b p q a m l hs) (k : Below w.heap.size w w') : DS w' b p q a m l hs := by
  obtain ⟨Fc, Fr, G, h1, h2, h3, h4⟩ := h
  exact ⟨Fc, Fr, G, h1.below k, h2.below k, h3.kp (Kp.of_below k) (fun _ _ => id), h4⟩
/-- A call that asks and turns the code's table, then one that does so of the document's: the same rows behind both. -/
theorem DS.step {w w1 w2 : World} {b : Nat} {p q : Option Addr} {a : Addr} {m : Nat} {l l' : List Row} {hs : List Int} {Fc Fr G Fc' : Nat → Prop} (hb : b ≤ w.heap.size) (hC : TabC w b p m l Fc) (hR : TabR w b q m l Fr) (hM : MadeV w b a hs G)
    (d1 : ∀ i, Fc i → ¬ Fr i) (d2 : ∀ i, Fc i → ¬ G i) (d3 : ∀ i, Fr i → ¬ G i) (ok : OkT m l') (hh : ∀ h ∈ hs, U64 h) (hC1 : TabC w1 b p m l' Fc') (m1 : Mv Fc w w1 Fc') (hR2 : TabR w2 b q m l' Fr) (m2 : Mv Fr w1 w2 Fr) :
    DS w2 b p q a m l' hs ∧ Below b w w2 := by
  have e1 : ∀ i, Fc' i → ¬ Fr i := m1.apart d1 (fun i hi => (hR.lt hi).2)
  have e2 : ∀ i, Fc' i → ¬ G i := m1.apart d2 (fun i hi => (hM.lt hi).2)
  refine ⟨⟨Fc', Fr, G, hC1.kp m2.kp e1, hR2, (hM.kp m1.kp (fun i hg hf => d2 i hf hg)).kp m2.kp (fun i hg hf => d3 i hf hg), e1, e2, d3, ok, hh⟩, ?_⟩
  exact (m1.below (fun i hi => (hC.lt hi).1) hb).trans (m2.below (fun i hi => (hR.lt hi).1) (Nat.le_trans hb m1.kp.size))

structure CallV where
  kind : Int
  n : Int
  hd : Int
  kind2 : Int
  place : Int
def CallV.cells (c : CallV) : List Value := [.int .i64 c.kind, .int .i64 c.n, .int .u64 c.hd, .int .i64 c.kind2, .int .i64 c.place]
theorem CallV.cells_len (c : CallV) : c.cells.length = 5 := rfl

theorem do_tail {w : World} {b : Nat} {p q : Option Addr} {a : Addr} {m : Nat} {l : List Row} {hs : List Int} {C : Nat} {c : CallV} {h : Int} {K : Value → World → Prop} (hS : DS w b p q a m l hs) (hb : b ≤ w.heap.size) (hlen : hs.length ≤ 100000) (hC : Blk w C Ty.law12_Call c.cells) (hCb : ∀ Fc Fr G, TabC w b p m l Fc → TabR w b q m l Fr → MadeV w b a hs G → ¬ Fc C ∧ ¬ Fr C ∧ ¬ G C) (hh : U64 h)
    (hK : ∀ w' l' hs', DS w' b p q a m l' hs' → hs'.length ≤ hs.length + 1 → Below b w w' → K (.bool true) w') : law12_do.p3 K p q (some a) ⟨C, 0, none⟩ h w := by
  obtain ⟨Fc, Fr, G, hTC, hTR, hM, d1, d2, d3, ok, hu⟩ := hS
  obtain ⟨n1, n2, n3⟩ := hCb Fc Fr G hTC hTR hM
  have c0 := hC.cell' (j := 0) rfl
  have c1 := hC.cell' (j := 1) rfl
  have c3 := hC.cell' (j := 3) rfl
  have c4 := hC.cell' (j := 4) rfl
  refine ⟨_, c0, ?_⟩
  refine cond_eq (fun k1 => ?_) (fun k1 => ?_)
  · refine ⟨_, c3, _, c4, ?_⟩
    refine handle_Table_Make_c hTC hb ok.len ok.m4 ok.gens fun w1 Fc' hTC1 m1 => ⟨_, _, rfl, ?_⟩
    have hC1 := hC.kp m1.kp n1
    refine ⟨_, hC1.cell' (j := 3) rfl, _, hC1.cell' (j := 4) rfl, ?_⟩
    have hTR1 := hTR.kp m1.kp (fun i hi hf => d1 i hf hi)
    refine ref12_Table_Make_c hTR1 ok.m4 ok.gens fun w2 hTR2 m2 => ⟨_, _, rfl, ?_⟩
    obtain ⟨hS2, hb2⟩ := DS.step hb hTC hTR hM d1 d2 d3 (ok.made c.kind2 c.place) hu hTC1 m1 hTR2 m2
    have fin : ∀ w' hs', DS w' b p q a m (mkL l m c.kind2 c.place) hs' → hs'.length ≤ hs.length + 1 → Below b w w' → law12_do.p8 K (mkH l m) (mkE l m) (mkH l m) (mkE l m) w' := fun w' hs' h1 h2 h3 =>
      cond_eq (fun _ => by
        show K (.bool (mkE l m == mkE l m)) w'
        rw [beq_self_eq_true]
        exact hK w' _ hs' h1 h2 h3) (fun h => absurd rfl h)
    refine cond_eq (fun e0 => ?_) (fun _ => fin w2 hs hS2 (by omega) hb2)
    obtain ⟨Fc2, Fr2, G2, hTC2, hTR2', hM2, e1, e2, e3, ok2, hu2⟩ := hS2
    obtain ⟨t, A, cc, rfl, hbt, hB, ho, hne, rfl⟩ := hM2
    have hbs : b ≤ w2.heap.size := Nat.le_trans hb hb2.size
    refine ⟨_, rfl, _, _, _, hB.cell' (j := 0) rfl, wlet_intro fun w3 h3 => ?_⟩
    have hal : Below w2.heap.size w2 w3 := by rw [h3]; exact (Below.refl _ _).alloc (Nat.le_refl _) _
    have hz : Blk w3 w2.heap.size Ty.api_Handle [.int .u64 (mkH l m)] := by rw [h3]; exact Blk.new w2 Ty.api_Handle _
    clear h3
    refine app_hdl (own_below_kp ho hal) hz (by omega) (Nat.le_trans hbs hal.size) fun A' c' w4 ho4 hm4 => ⟨_, _, _, rfl, ?_⟩
    have hB4 := (hB.kp (Kp.of_below hal) id).kp hm4.kp (fun e => hne t e rfl)
    refine ⟨_, rfl, hB4.canStore (j := 0) (by simp), wlet_intro fun w5 h5 => ?_⟩
    have hB5 : Blk w5 t Ty.sl_api_Handle [.slice A' (hs.length + 1) c'] := by rw [h5]; exact hB4.set 0 (.slice A' (hs.length + 1) c')
    have hk5 : Kp (· = t) w4 w5 := by rw [h5]; exact Kp.setCell _ _ _ rfl
    clear h5
    have hne4 : ∀ g, (Value.slice A' (hs.length + 1) c').ownBlock = some g → g ≠ t := fun g hg e => by
      rcases hm4.foot g hg with h | h
      · exact hne g h e
      · have := hB.lt; have := hal.size; omega
    have hmv : Mv (fun i => i = t ∨ (Value.slice A hs.length cc).ownBlock = some i) w2 w5 (fun i => i = t ∨ (Value.slice A' (hs.length + 1) c').ownBlock = some i) := by
      refine (Mv.of_below hal).trans ⟨hm4.kp.trans (T := fun i => i = t ∨ (Value.slice A hs.length cc).ownBlock = some i) hk5 (fun _ _ h => .inr h) (fun _ _ h => .inl h), fun i hi => ?_⟩
      rcases hi with hi | hi
      · exact .inl (.inl hi)
      · exact (hm4.foot i hi).imp .inr id
    have hM5 : MadeV w5 b ⟨t, 0, none⟩ (hs ++ [mkH l m]) (fun i => i = t ∨ (Value.slice A' (hs.length + 1) c').ownBlock = some i) :=
      ⟨t, A', c', rfl, hbt, by simpa using hB5, by simpa using own_kp ho4 hk5 hne4, by simpa using hne4, by simp⟩
    refine fin w5 (hs ++ [mkH l m]) ⟨Fc2, Fr2, _, hTC2.kp hmv.kp e2, hTR2'.kp hmv.kp e3, hM5, e1, fun i hi hg => ?_, fun i hi hg => ?_, ok2, fun x hx => ?_⟩ (by simp) (hb2.trans (hmv.below (fun i hi => ?_) hbs))
    · rcases hmv.foot i hg with h | h
      · exact e2 i hi h
      · have := (hTC2.lt hi).2; omega
    · rcases hmv.foot i hg with h | h
      · exact e3 i hi h
      · have := (hTR2'.lt hi).2; omega
    · rcases List.mem_append.1 hx with hx | hx
      · exact hu2 x hx
      · rw [List.mem_singleton.1 hx]; exact mkH_u64 l m
    · rcases hi with rfl | hi
      · exact hbt
      · exact (own_lt ho hi).1
  have get : law12_do.p10 K p q ⟨C, 0, none⟩ h c.kind true w := by
    refine handle_Table_Get_c hTC (Nat.le_trans ok.len ok.m4) ok.gens hh.1 hh.2 ⟨_, _, _, rfl, ?_⟩
    refine ref12_Table_Get_c hTR ok.m4 ok.lives fun w1 hb1 => ⟨_, _, _, rfl, ?_⟩
    refine cond_eq (fun _ => cond_eq (fun _ => ?_) (fun h => absurd rfl h)) (fun h => absurd rfl h)
    show K (.bool (getE l h == getE l h)) w1
    rw [beq_self_eq_true]
    exact hK w1 l hs (DS.below ⟨Fc, Fr, G, hTC, hTR, hM, d1, d2, d3, ok, hu⟩ hb1) (by omega) (hb1.mono hb)
  have put : law12_do.p14 K p q ⟨C, 0, none⟩ h c.kind true w := by
    refine ⟨fun H => H[C]? = some (.cells ⟨c.cells⟩ Ty.law12_Call (0, 0)), hC, _, fun w' h' => Blk.cell' (show Blk w' C Ty.law12_Call c.cells from h') (j := 4) rfl, _, fun w' h' => Blk.cell' (show Blk w' C Ty.law12_Call c.cells from h') (j := 4) rfl, ?_⟩
    refine handle_Table_Put_c hTC (Nat.le_trans ok.len ok.m4) ok.gens hh.1 hh.2 fun w1 hTC1 k1 => ⟨_, rfl, hC.kp k1 n1, ?_⟩
    have hTR1 := hTR.kp k1 (fun i hi hf => d1 i hf hi)
    refine ref12_Table_Put_c hTR1 ok.m4 ok.lives fun w2 hTR2 m2 => ⟨_, rfl, (hC.kp k1 n1).kp m2.kp n2, ?_⟩
    obtain ⟨hS2, hb2⟩ := DS.step hb hTC hTR hM d1 d2 d3 (ok.putted h c.place) hu hTC1 (Mv.of_kp k1) hTR2 m2
    show K (.bool (getE l h == getE l h)) w2
    rw [beq_self_eq_true]
    exact hK w2 _ hs hS2 (by omega) hb2
  have drop : law12_do.p16 K p q h true w := by
    refine handle_Table_Drop_c hTC (Nat.le_trans ok.len ok.m4) ok.gens hh.1 hh.2 fun w1 hTC1 k1 => ⟨_, rfl, ?_⟩
    have hTR1 := hTR.kp k1 (fun i hi hf => d1 i hf hi)
    refine ref12_Table_Drop_c hTR1 ok.m4 ok.lives fun w2 hTR2 m2 => ⟨_, rfl, ?_⟩
    obtain ⟨hS2, hb2⟩ := DS.step hb hTC hTR hM d1 d2 d3 (ok.dropped h) hu hTC1 (Mv.of_kp k1) hTR2 m2
    rw [beq_self_eq_true]
    exact hK w2 _ hs hS2 (by omega) hb2
  refine cond_eq (fun k2 => ?_) (fun k2 => ?_)
  · have : (c.kind == (2 : Int)) = true := by rw [k2]; rfl
    rw [this]; exact get
  by_cases k5 : c.kind = 5
  · have : (c.kind == (5 : Int)) = true := by rw [k5]; rfl
    rw [this]; exact get
  have e5 : (c.kind == (5 : Int)) = false := by simpa using k5
  rw [e5]
  refine condP_f ?_
  refine cond_eq (fun k3 => ?_) (fun k3 => ?_)
  · have : (c.kind == (3 : Int)) = true := by rw [k3]; rfl
    rw [this]; exact put
  by_cases k6 : c.kind = 6
  · have : (c.kind == (6 : Int)) = true := by rw [k6]; rfl
    rw [this]; exact put
  have e6 : (c.kind == (6 : Int)) = false := by simpa using k6
  rw [e6]
  refine condP_f ?_
  refine cond_eq (fun k4 => ?_) (fun k4 => ?_)
  · have : (c.kind == (4 : Int)) = true := by rw [k4]; rfl
    rw [this]; exact drop
  by_cases k7 : c.kind = 7
  · have : (c.kind == (7 : Int)) = true := by rw [k7]; rfl
    rw [this]; exact drop
  have e7 : (c.kind == (7 : Int)) = false := by simpa using k7
  rw [e7]
  exact hK w l hs ⟨Fc, Fr, G, hTC, hTR, hM, d1, d2, d3, ok, hu⟩ (by omega) (Below.refl _ _)
theorem law12_do_c {w : World} {b : Nat} {p q : Option Addr} {a : Addr} {m : Nat} {l : List Row} {hs : List Int} {c : CallV} {K : Value → World → Prop} (hS : DS w b p q a m l hs) (hb : b ≤ w.heap.size) (hlen : hs.length ≤ 100000) (hh : U64 c.hd) (hn : -9223372036854775808 ≤ c.n ∧ c.n ≤ 9223372036854775807)
    (hK : ∀ w' l' hs', DS w' b p q a m l' hs' → hs'.length ≤ hs.length + 1 → Below b w w' → K (.bool true) w') : CallsE Pg law12_do.N #[.pointer p, .pointer q, .agg ⟨c.cells⟩, .pointer (some a)] w K := by
  refine law12_do.ok (q2_0 := c.kind) (q2_1 := c.n) (q2_2 := c.hd) (q2_3 := c.kind2) (q2_4 := c.place) (wlet_intro fun w1 h1 => ?_)
  have hal : Below w.heap.size w w1 := by rw [h1]; exact (Below.refl _ _).alloc (Nat.le_refl _) _
  have hC : Blk w1 w.heap.size Ty.law12_Call c.cells := by rw [h1]; exact Blk.new w Ty.law12_Call c.cells
  clear h1
  have hS1 := hS.below hal
  have tail : ∀ h, U64 h → law12_do.p3 K p q (some a) ⟨w.heap.size, 0, none⟩ h w1 := fun h hh => by
    refine do_tail hS1 (Nat.le_trans hb hal.size) hlen hC (fun Fc' Fr' G' hc hr hm => ?_) hh fun w' l' hs' h1 h2 h3 => hK w' l' hs' h1 h2 ((hal.mono hb).trans h3)
    obtain ⟨Fc, Fr, G, hTC, hTR, hM, d1, d2, d3, ok, hu⟩ := hS
    obtain ⟨t, A, cc, rfl, hbt, hB, ho, hne, rfl⟩ := id hTC
    obtain ⟨t', g, rfl, hbt', hbg, hne', hB', hG', hl, rfl⟩ := id hTR
    obtain ⟨t'', A'', c'', rfl, hbt'', hB'', ho'', hne'', rfl⟩ := id hM
    have u1 := (hB.kp (Kp.of_below hal) id).cell' (j := 1) rfl
    have u2 := (hB'.kp (Kp.of_below hal) id).cell' (j := 0) rfl
    have u3 := (hB''.kp (Kp.of_below hal) id).cell' (j := 0) rfl
    refine ⟨fun hi => ?_, fun hi => ?_, fun hi => ?_⟩
    · obtain ⟨t2, A2, cc2, e, _, hB2, _, _, rfl⟩ := hc
      cases e
      have u := hB2.cell' (j := 1) rfl
      rw [u1] at u
      cases u
      rcases hi with hi | hi
      · have := hB.lt; omega
      · have := (own_lt ho hi).2; omega
    · obtain ⟨t2, g2, e, _, _, _, hB2, _, _, rfl⟩ := hr
      cases e
      have u := hB2.cell' (j := 0) rfl
      rw [u2] at u
      cases u
      rcases hi with hi | hi
      · have := hB'.lt; omega
      · have := hG'.lt; omega
    · obtain ⟨t2, A2, cc2, e, _, hB2, _, _, rfl⟩ := hm
      cases e
      have u := hB2.cell' (j := 0) rfl
      rw [u3] at u
      cases u
      rcases hi with hi | hi
      · have := hB''.lt; omega
      · have := (own_lt ho'' hi).2; omega
  have c0 := hC.cell' (j := 0) rfl
  have c1 := hC.cell' (j := 1) rfl
  have c2 := hC.cell' (j := 2) rfl
  refine ⟨_, c2, _, c0, cond_dec (fun _ => ?_) (fun _ => tail c.hd hh)⟩
  obtain ⟨Fc, Fr, G, hTC, hTR, hM, d1, d2, d3, ok, hu⟩ := hS1
  obtain ⟨t, A, cc, rfl, hbt, hB, ho, hne, rfl⟩ := hM
  have u0 := hB.cell' (j := 0) rfl
  refine ⟨_, rfl, _, _, _, u0, cond_dec (fun hpos => ?_) (fun _ => tail c.hd hh)⟩
  refine ⟨_, rfl, _, _, _, u0, _, c1, _, rfl, _, _, _, u0, ?_⟩
  have ew : IntKind.wrap .u64 (hs.length : Int) = hs.length := wrapu64_in (by omega) (by omega)
  have hw : 0 ≤ IntKind.wrap .u64 c.n := by rw [wrapu64_eq]; omega
  have hr : 0 ≤ Int.tmod (IntKind.wrap .u64 c.n) (hs.length : Int) ∧ Int.tmod (IntKind.wrap .u64 c.n) (hs.length : Int) < hs.length := by
    rw [Int.tmod_eq_emod_of_nonneg hw]
    exact ⟨Int.emod_nonneg _ (by omega), Int.emod_lt_of_pos _ (by omega)⟩
  rw [ew, wrap64_in (x := Int.tmod (IntKind.wrap .u64 c.n) (hs.length : Int)) (by omega) (by omega)]
  obtain ⟨j, hj⟩ : ∃ j : Nat, Int.tmod (IntKind.wrap .u64 c.n) (hs.length : Int) = j := ⟨(Int.tmod (IntKind.wrap .u64 c.n) (hs.length : Int)).toNat, by omega⟩
  rw [hj] at hr ⊢
  have hxk : hs[j]? = some hs[j] := List.getElem?_eq_getElem (by omega)
  obtain ⟨x, rfl, hx⟩ := (Cs.ofOwn ho).at (nums_at hxk)
  exact ⟨by omega, ⟨by omega, by omega⟩, x, rfl, _, hx, tail _ (hu _ (List.getElem_mem (by omega)))⟩

end Go.Proofs.Ytcpgflcbjcekeaa.C
