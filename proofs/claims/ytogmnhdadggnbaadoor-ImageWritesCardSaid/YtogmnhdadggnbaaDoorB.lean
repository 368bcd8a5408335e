/-
  Parts of the proofs of this seat: what the functions compute. No condition beyond what each theorem states.
-/
import Derived.Test.YtogmnhdadggnbaaDoorF
import Derived.Test.YtogmnhdadggnbaaDoorRK
import Derived.Test.YtogmnhdadggnbaaDoorA
set_option linter.unusedVariables false
set_option linter.unusedSimpArgs false
set_option maxRecDepth 100000
namespace Go.Proofs.YtogmnhdadggnbaaDoor.C
open Go Go.RowKit Go.Proofs.YtogmnhdadggnbaaDoor Go.Proofs.YtogmnhdadggnbaaDoor.Sh Go.Proofs.YtogmnhdadggnbaaDoor.F Go.Proofs.YtogmnhdadggnbaaDoor.R

/-! ### rows of whole numbers -/
theorem int_info : (Pg.info? Ty.int).map (fun i => (i.zero, i.size, i.bytes)) = some (some (.int .i64 0), 1, 8) := by kernel_rfl
theorem ints_under : Pg.underlying Ty.sl_int = some (.slice Ty.int) := by kernel_rfl
theorem app_i64 {w : World} {base : Nat} {v : Value} {n : Nat} {l : List Int} (hown : w.ownsRow base Ty.int 1 v n (nums .i64 l)) {B : Option Addr} {m c : Nat} {r : List Int} (hl : m = r.length) (hnews : Cs w B (nums .i64 r))
    (hbytes : (n + m) * 8 ≤ 140737488355328) (hbase : base ≤ w.heap.size) {K : Value → World → Prop}
    (h : ∀ A' c' w', w'.ownsRow base Ty.int 1 (.slice A' (n + m) c') (n + m) (nums .i64 (l ++ r)) → Mv (fun g => v.ownBlock = some g) w w' (fun g => (Value.slice A' (n + m) c').ownBlock = some g) → K (.slice A' (n + m) c') w') :
    SemJ Pg (Builtin.append_ #[Ty.sl_int, Ty.sl_int] Ty.sl_int #[v, .slice B m c]) K w :=
  app_own base ints_under int_info rfl (by decide) hown (by rw [nums_len, hl]; omega) hnews (nums_one .i64 r) hbytes (by decide) hbase fun A' c' w' h1 h2 => h A' c' w' (by rw [nums_app]; exact h1) h2
/-- A new copy of a slice of whole numbers. -/
theorem copy_i64 {w : World} {A : Option Addr} {m c : Nat} {l : List Int} {K : Value → World → Prop} (hx : Cs w A (nums .i64 l)) (hm : m = l.length) (hb : m * 8 ≤ 140737488355328)
    (hK : ∀ A' c' w', w'.ownsRow w.heap.size Ty.int 1 (.slice A' m c') m (nums .i64 l) → Below w.heap.size w w' → K (.slice A' m c') w') :
    wlet (w.alloc (.cells #[] Ty.int)) fun w1 => SemJ Pg (Builtin.append_ #[Ty.sl_int, Ty.sl_int] Ty.sl_int #[.slice (some ⟨w.heap.size, 0, none⟩) 0 0, .slice A m c]) K w1 := by
  refine wlet_intro fun w1 h1 => ?_
  have hal : Below w.heap.size w w1 := by rw [h1]; exact (Below.refl _ _).alloc (Nat.le_refl _) _
  have hnew : w1.ownsRow w.heap.size Ty.int 1 (.slice (some ⟨w.heap.size, 0, none⟩) 0 0) 0 (nums .i64 []) := by rw [h1]; exact own_new (Nat.le_refl _) (Nat.zero_le _) rfl
  clear h1
  refine app_i64 hnew hm (hx.below hal) (by omega) hal.size fun A' c' w2 ho2 hm2 => ?_
  rw [Nat.zero_add] at ho2 ⊢
  rw [List.nil_append] at ho2
  exact hK A' c' w2 ho2 (hal.trans (hm2.kp.below hal.size fun i hi e => by cases e; exact absurd hi (Nat.lt_irrefl _)))
/-! ### numbers, readers: what more chapters lean on -/
theorem bytes_wf {xs : List Int} (h : ∀ x ∈ xs, (Lit.int .u8 x).wf = true) : Bytes xs := fun x hx => wf_u8 (h x hx)
theorem getB_putB (x : Nat) : ∀ w, getB (putB (x : Int) w) = ((x % 256 ^ w : Nat) : Int)
  | 0 => by simp [putB, getB, Nat.mod_one]
  | w + 1 => by
    unfold putB
    rw [getB_snoc, getB_putB x w, putB_len, Nat.pow_succ, Nat.mod_mul]
    have e : (x : Int) / ((256 ^ w : Nat) : Int) % 256 = ((x / 256 ^ w % 256 : Nat) : Int) := by
      rw [Int.natCast_emod, Int.natCast_ediv]; rfl
    rw [e, Int.natCast_add, Int.natCast_mul]
theorem getV_put8 {n : Int} (h : U64 n) : getV (putB n 8) = n := by
  obtain ⟨x, rfl⟩ := Int.eq_ofNat_of_zero_le h.1
  unfold getV
  rw [List.take_of_length_le (by rw [putB_len]; exact Nat.le_refl _), getB_putB]
  have := h.2
  rw [Nat.mod_eq_of_lt (by omega)]
/-- What is read without a fault is what is written of it. -/
theorem scan_var : ∀ (cs : List Int) (i : Nat) (acc v : Int) (u : Nat), scan i acc cs = (v, 0, u) → i ≤ 9 → Bytes cs → 0 ≤ acc → acc < ((128 ^ i : Nat) : Int) →
    ∃ val : Int, v = acc + val * ((128 ^ i : Nat) : Int) ∧ 0 ≤ val ∧ (0 < i → 1 ≤ val) ∧ i < u ∧ cs.take (u - i) = varF (9 - i) val ∧ v < 18446744073709551616
  | [], i, acc, v, u, h, _, _, _, _ => by simp [scan] at h
  | c :: cs, i, acc, v, u, h, hi, hb, h0, h1 => by
    have hc := hb c (by simp)
    unfold scan at h
    by_cases hbad : (i = 9 ∧ 1 < c) ∨ (0 < i ∧ c = 0)
    · rw [if_pos hbad] at h
      simp at h
    rw [if_neg hbad] at h
    obtain ⟨_, e2, e3⟩ := scan_step h0 h1 hc.1 hc.2 (by omega)
    have hpos : (0 : Int) ≤ c % 128 * ((128 ^ i : Nat) : Int) := Int.mul_nonneg (by omega) (Int.natCast_nonneg _)
    by_cases h128 : c < 128
    · rw [if_pos h128] at h
      simp only [Prod.mk.injEq] at h
      obtain ⟨rfl, _, rfl⟩ := h
      have em : c % 128 = c := by omega
      rw [em] at e3
      refine ⟨c, rfl, hc.1, fun hp => by omega, by omega, ?_, e3⟩
      have : i + 1 - i = 1 := by omega
      rw [this]
      cases hf : 9 - i with
      | zero => simp [varF]
      | succ f => simp [varF, h128]
    · rw [if_neg h128] at h
      have hi8 : i ≤ 8 := by omega
      obtain ⟨val, hv, hv0, hv1, hu, ht, hlt⟩ := scan_var cs (i + 1) _ v u h (by omega) (fun x hx => hb x (List.mem_cons_of_mem _ hx)) (by omega) e2
      have hv1' := hv1 (by omega)
      have ep : ((128 ^ (i + 1) : Nat) : Int) = 128 * ((128 ^ i : Nat) : Int) := by rw [Nat.pow_succ]; push_cast; omega
      refine ⟨c % 128 + 128 * val, ?_, by omega, fun _ => by omega, by omega, ?_, hlt⟩
      · rw [hv, ep, Int.add_mul]
        have : val * (128 * ((128 ^ i : Nat) : Int)) = 128 * val * ((128 ^ i : Nat) : Int) := by rw [← Int.mul_assoc, Int.mul_comm val 128]
        rw [this]; omega
      · obtain ⟨k, hk⟩ : ∃ k, u - i = k + 1 := ⟨u - i - 1, by omega⟩
        have hk2 : u - (i + 1) = k := by omega
        rw [hk2] at ht
        obtain ⟨f, hf⟩ : ∃ f, 9 - i = f + 1 := ⟨9 - i - 1, by omega⟩
        have hf2 : 9 - (i + 1) = f := by omega
        rw [hf2] at ht
        rw [hk, hf, List.take_succ_cons, varF, if_neg (by omega), ht]
        congr 1
        · omega
        · congr 1; omega
theorem list_of {α : Type} {f : α → List Value} {Q : World → List Value → Prop} {R : α → Prop} {B m : Nat} {w : World} {A : Option Addr} {n c : Nat} (h : RdSlice B m Q w [.slice A n c]) (hq : ∀ cs, Q w cs → ∃ x, R x ∧ cs = f x) :
    ∃ l : List α, Cs w A (l.flatMap f) ∧ n = l.length ∧ n * B ≤ 140737488351232 ∧ ∀ x ∈ l, R x := by
  obtain ⟨A', n', c', rows, e, h1, h2, h3, h4, h5⟩ := h
  cases e
  obtain ⟨l, rfl, hl⟩ := exists_map (f := f) (Q := R) (fun r hr => hq r (h5 r hr).2)
  rw [List.length_map] at h3
  exact ⟨l, by rw [List.flatMap_def]; exact h4, h3.symm, h2, hl⟩
theorem RdV.under {ty : TypeId} {w w' : World} {b b0 : Nat} {p : Option Addr} {left : List Int} {err : Int} {F : Nat → Prop} (h : RdV ty w b p left err F) (hb : b0 ≤ b) (hb' : b0 ≤ w.heap.size) (k : Kp (C.pt p) w w') : Below b0 w w' :=
  k.below hb' fun i hi hp => by have := (h.lt (h.pt hp)).1; omega
theorem RdV.base {ty : TypeId} {w : World} {b b' : Nat} {p : Option Addr} {left : List Int} {err : Int} {F : Nat → Prop} (h : RdV ty w b p left err F) (hb : b' ≤ b) : RdV ty w b' p left err F := by
  obtain ⟨t, A, c, rfl, hbt, hB, hc, hx, hg, rfl⟩ := h
  exact ⟨t, A, c, rfl, Nat.le_trans hb hbt, hB, hc, hx, fun g e => ⟨Nat.le_trans hb (hg g e).1, (hg g e).2⟩, rfl⟩
/-! ### tables of places -/
def goodV (x : Int) : Bool := decide (256 ≤ x) && (decide (x ≤ 1099511627776) && (Int.tmod x 256 == 0))
theorem arena_Good_c {x : Int} {K : Value → World → Prop} {w : World} (h : K (.bool (goodV x)) w) : CallsE Pg arena_Good.N #[.int .i64 x] w K := by
  refine arena_Good.ok ?_
  unfold goodV at h
  refine cond_dec (fun h1 => cond_dec (fun h2 => ⟨by decide, ?_⟩) (fun h2 => ?_)) (fun h1 => ?_)
  · rw [decide_eq_true h1, decide_eq_true h2] at h; exact h
  · rw [decide_eq_false h2, Bool.false_and, Bool.and_false] at h; exact h
  · rw [decide_eq_false h1, Bool.false_and] at h; exact h
theorem ref08_Good_c {x : Int} {K : Value → World → Prop} {w : World} (h : K (.bool (goodV x)) w) : CallsE Pg ref08_Good.N #[.int .i64 x] w K := by
  refine ref08_Good.ok ?_
  unfold goodV at h
  refine cond_dec (fun h1 => cond_dec (fun h2 => ⟨by decide, ?_⟩) (fun h2 => ?_)) (fun h1 => ?_)
  · rw [decide_eq_true h1, decide_eq_true h2] at h; exact h
  · rw [decide_eq_false h2, Bool.false_and, Bool.and_false] at h; exact h
  · rw [decide_eq_false h1, Bool.false_and] at h; exact h
theorem ints_loop {w : World} {A B : Option Addr} {n c d : Nat} {l : List Int} {K : Value → World → Prop} (hx : Cs w A (nums .i64 l)) (hy : Cs w B (nums .i64 l)) (hn : n = l.length) (hl : n ≤ 1000000000000000) (hK : K (.bool true) w) : ∀ (j k : Nat), k + j = n →
    ref01_Ints.l0 K (j + 1) A n c B n d n k w := by
  intro j
  induction j with
  | zero =>
    intro k hk
    rw [ref01_Ints.l0_succ]
    exact cond_dec (fun h => by omega) (fun _ => hK)
  | succ j ih =>
    intro k hk
    rw [ref01_Ints.l0_succ]
    refine cond_dec (fun _ => ?_) (fun h => absurd h (by omega))
    have hxk : l[k]? = some l[k] := List.getElem?_eq_getElem (by omega)
    obtain ⟨a, rfl, c0⟩ := hx.at (nums_at hxk)
    obtain ⟨b, rfl, d0⟩ := hy.at (nums_at hxk)
    refine ⟨⟨by omega, by omega⟩, a, rfl, _, c0, ⟨by omega, by omega⟩, b, rfl, _, d0, cond_ne (fun h => absurd rfl h) (fun _ => ?_)⟩
    rw [cst k (by omega)]
    exact ih (k + 1) (by omega)
theorem ref01_Ints_c {w : World} {A B : Option Addr} {n n' c d : Nat} {l : List Int} {K : Value → World → Prop} (hx : Cs w A (nums .i64 l)) (hy : Cs w B (nums .i64 l)) (hn : n = l.length) (hn' : n' = l.length) (hl : n ≤ 1000000000000000) (hK : K (.bool true) w) : CallsE Pg ref01_Ints.N #[.slice A n c, .slice B n' d] w K := by
  obtain rfl : n' = n := by omega
  refine ref01_Ints.ok (cond_ne (fun h => absurd rfl h) (fun _ => ⟨n' + 1, ?_⟩))
  exact ints_loop hx hy hn hl hK n' 0 (by omega)
/-- The places rise, each at a word's bound, within so many bytes. -/
def rightFrom (n : Int) : Int → List Int → Bool
  | _, [] => true
  | next, x :: l => if x < next ∨ x % 8 ≠ 0 ∨ imax 0 n - 8 < x then false else rightFrom n (x + 8) l
def rightV (l : List Int) (n : Int) : Bool := if 8192 < l.length then false else rightFrom n 0 l
def I64 (x : Int) : Prop := -9223372036854775808 ≤ x ∧ x ≤ 9223372036854775807
theorem tmod8 {x : Int} : (Int.tmod x 8 != 0) = decide (x % 8 ≠ 0) := by
  have : Int.tmod x 8 = 0 ↔ x % 8 = 0 := by
    rw [← Int.dvd_iff_tmod_eq_zero, ← Int.dvd_iff_emod_eq_zero]
  by_cases h : x % 8 = 0
  · rw [this.2 h]; simp [h]
  · have h2 : Int.tmod x 8 ≠ 0 := fun e => h (this.1 e)
    simp [h, h2]
theorem right_loop {w : World} {A : Option Addr} {m c : Nat} {l : List Int} {n : Int} {K : Value → World → Prop} (hx : Cs w A (nums .i64 l)) (hm : m = l.length) (hl : m ≤ 8192) (hn : I64 n) (hi : ∀ x ∈ l, I64 x) (hK : K (.bool (rightFrom n 0 l)) w) :
    ∀ (d k : Nat) (next : Int), k + d = m → 0 ≤ next → next ≤ 9223372036854775807 → rightFrom n next (l.drop k) = rightFrom n 0 l → reloc_Right.l0 K (d + 1) n next A m c m k w := by
  intro d
  induction d with
  | zero =>
    intro k next hk h0 h1 he
    rw [reloc_Right.l0_succ]
    show condP (decide ((k : Int) < _)) _ _
    refine cond_dec (fun h => by omega) (fun _ => ?_)
    rw [List.drop_of_length_le (by omega)] at he
    rw [← he] at hK
    exact hK
  | succ d ih =>
    intro k next hk h0 h1 he
    rw [reloc_Right.l0_succ]
    show condP (decide ((k : Int) < _)) _ _
    refine cond_dec (fun _ => ?_) (fun h => absurd h (by omega))
    have hlt : k < l.length := by omega
    have hxk : l[k]? = some l[k] := List.getElem?_eq_getElem hlt
    obtain ⟨a, rfl, c0⟩ := hx.at (nums_at hxk)
    have hik := hi _ (List.getElem_mem hlt)
    rw [List.drop_eq_getElem_cons hlt, rightFrom] at he
    refine ⟨⟨by omega, by omega⟩, a, rfl, _, c0, ?_⟩
    have bad : (l[k] < next ∨ l[k] % 8 ≠ 0 ∨ imax 0 n - 8 < l[k]) → K (.bool false) w := fun h => by
      rw [if_pos h] at he
      rw [← he] at hK
      exact hK
    have hmx : 0 ≤ imax 0 n ∧ imax 0 n ≤ 9223372036854775807 := by unfold imax I64 at *; split <;> omega
    have em : IntKind.wrap .i64 (imax 0 n - 8) = imax 0 n - 8 := wrap64_in (by omega) (by omega)
    refine cond_dec (fun h => bad (.inl h)) (fun g1 => ⟨by decide, ?_⟩)
    rw [tmod8, em]
    refine cond_dec (fun h => bad (.inr (.inl h))) (fun g2 => ?_)
    by_cases g3 : imax 0 n - 8 < l[k]
    · rw [decide_eq_true g3]; exact bad (.inr (.inr g3))
    · rw [decide_eq_false g3]
      rw [if_neg (by omega)] at he
      show reloc_Right.l0 K (d + 1) n (IntKind.wrap .i64 (l[k] + 8)) (some a) m c m (IntKind.wrap .i64 ((k : Int) + 1)) w
      rw [wrap64_in (x := l[k] + 8) (by omega) (by omega), cst k (by omega)]
      exact ih (k + 1) _ (by omega) (by omega) (by omega) he
theorem reloc_Right_c {w : World} {A : Option Addr} {m c : Nat} {l : List Int} {n : Int} {K : Value → World → Prop} (hx : Cs w A (nums .i64 l)) (hm : m = l.length) (hn : I64 n) (hi : ∀ x ∈ l, I64 x) (hK : K (.bool (rightV l n)) w) : CallsE Pg reloc_Right.N #[.slice A m c, .int .i64 n] w K := by
  refine reloc_Right.ok ?_
  unfold rightV at hK
  refine cond_dec (fun h => ?_) (fun h => ?_)
  · rw [if_pos (by omega)] at hK; exact hK
  · rw [if_neg (by omega)] at hK
    exact ⟨m + 1, right_loop hx hm (by omega) hn hi hK m 0 0 (by omega) (by decide) (by decide) rfl⟩
theorem rright_loop {w : World} {A : Option Addr} {m c : Nat} {l : List Int} {n : Int} {K : Value → World → Prop} (hx : Cs w A (nums .i64 l)) (hm : m = l.length) (hl : m ≤ 8192) (hn : I64 n) (hi : ∀ x ∈ l, I64 x) (hK : K (.bool (rightFrom n 0 l)) w) :
    ∀ (d k : Nat) (next : Int), k + d = m → (k = 0 ∧ next = 0 ∨ 0 < k ∧ ∃ y, l[k - 1]? = some y ∧ next = y + 8 ∧ y % 8 = 0 ∧ 0 ≤ y ∧ y ≤ 9223372036854775799) → rightFrom n next (l.drop k) = rightFrom n 0 l → ref16_Right.l0 K (d + 1) A m c n A m c m k w := by
  intro d
  induction d with
  | zero =>
    intro k next hk h0 he
    rw [ref16_Right.l0_succ]
    show condP (decide ((k : Int) < _)) _ _
    refine cond_dec (fun h => by omega) (fun _ => ?_)
    rw [List.drop_of_length_le (by omega)] at he
    rw [← he] at hK
    exact hK
  | succ d ih =>
    intro k next hk h0 he
    rw [ref16_Right.l0_succ]
    show condP (decide ((k : Int) < _)) _ _
    refine cond_dec (fun _ => ?_) (fun h => absurd h (by omega))
    have hlt : k < l.length := by omega
    have hxk : l[k]? = some l[k] := List.getElem?_eq_getElem hlt
    obtain ⟨a, rfl, c0⟩ := hx.at (nums_at hxk)
    have hik := hi _ (List.getElem_mem hlt)
    rw [List.drop_eq_getElem_cons hlt, rightFrom] at he
    refine ⟨⟨by omega, by omega⟩, a, rfl, _, c0, ?_⟩
    have bad : (l[k] < next ∨ l[k] % 8 ≠ 0 ∨ imax 0 n - 8 < l[k]) → K (.bool false) w := fun h => by
      rw [if_pos h] at he
      rw [← he] at hK
      exact hK
    have hn0 : 0 ≤ next := by
      rcases h0 with ⟨_, rfl⟩ | ⟨_, y, _, rfl, _, h, _⟩
      · exact Int.le_refl _
      · omega
    have hmx : 0 ≤ imax 0 n ∧ imax 0 n ≤ 9223372036854775807 := by unfold imax I64 at *; split <;> omega
    have em : IntKind.wrap .i64 (imax 0 n - 8) = imax 0 n - 8 := wrap64_in (by omega) (by omega)
    refine cond_dec (fun h => bad (.inl (by omega))) (fun g1 => ⟨by decide, ?_⟩)
    rw [tmod8, em]
    refine cond_dec (fun h => bad (.inr (.inl h))) (fun g2 => ?_)
    refine cond_dec (fun h => bad (.inr (.inr h))) (fun g3 => ?_)
    have good : ¬ l[k] < next → ref16_Right.p6 (ref16_Right.l0 K (d + 1)) K (some a) m c n (some a) m c m k false w := fun hge => by
      rw [if_neg (by omega)] at he
      show ref16_Right.l0 K (d + 1) (some a) m c n (some a) m c m (IntKind.wrap .i64 ((k : Int) + 1)) w
      rw [cst k (by omega)]
      refine ih (k + 1) (l[k] + 8) (by omega) (.inr ⟨by omega, l[k], by simp, rfl, by omega, by omega, by omega⟩) he
    refine cond_dec (fun hp => ?_) (fun hp => good ?_)
    · rcases h0 with ⟨h, _⟩ | ⟨_, y, hy, rfl, hy8, hy0, hy1⟩
      · omega
      · have ek : IntKind.wrap .i64 ((k : Int) - 1) = ((k - 1 : Nat) : Int) := by rw [wrap64_in (by omega) (by omega)]; omega
        obtain ⟨a', e, d0⟩ := hx.at (nums_at hy)
        cases e
        rw [ek]
        refine ⟨⟨by omega, by omega⟩, _, rfl, _, d0, ?_⟩
        by_cases hle : l[k] ≤ y
        · rw [decide_eq_true hle]; exact bad (.inl (by omega))
        · rw [decide_eq_false hle]; exact good (by omega)
    · rcases h0 with ⟨_, rfl⟩ | ⟨h, _⟩
      · omega
      · omega
theorem ref16_Right_c {w : World} {A : Option Addr} {m c : Nat} {l : List Int} {n : Int} {K : Value → World → Prop} (hx : Cs w A (nums .i64 l)) (hm : m = l.length) (hn : I64 n) (hi : ∀ x ∈ l, I64 x) (hK : K (.bool (rightV l n)) w) : CallsE Pg ref16_Right.N #[.slice A m c, .int .i64 n] w K := by
  refine ref16_Right.ok ?_
  unfold rightV at hK
  refine cond_dec (fun h => ?_) (fun h => ?_)
  · rw [if_pos (by omega)] at hK; exact hK
  · rw [if_neg (by omega)] at hK
    exact ⟨m + 1, rright_loop hx hm (by omega) hn hi hK m 0 0 (by omega) (.inl ⟨rfl, rfl⟩) rfl⟩
/-! a table's bytes -/
def encT : Int → List Int → List Int
  | _, [] => []
  | next, x :: l => varB ((x - next) / 8) ++ encT (x + 8) l
def tabB (l : List Int) : List Int := varB l.length ++ encT 0 l
theorem encT_bytes : ∀ (l : List Int) (next : Int), 0 ≤ next → rightFrom 65535 next l = true → Bytes (encT next l)
  | [], _, _, _ => fun x hx => by cases hx
  | x :: l, next, h0, h => by
    rw [rightFrom] at h
    by_cases hb : x < next ∨ x % 8 ≠ 0 ∨ imax 0 65535 - 8 < x
    · rw [if_pos hb] at h; cases h
    rw [if_neg hb] at h
    have e : imax 0 65535 = 65535 := rfl
    rw [e] at hb
    have ih := encT_bytes l (x + 8) (by omega) h
    intro y hy
    rcases List.mem_append.1 hy with hy | hy
    · exact varB_bytes ⟨by omega, by omega⟩ y hy
    · exact ih y hy
theorem tab_loop {w0 : World} {A : Option Addr} {m c : Nat} {l : List Int} {tot : List Int} {K : Value → World → Prop} (hx : Cs w0 A (nums .i64 l)) (hm : m = l.length) (hl : m ≤ 8192)
    (hK : ∀ B cb w', w'.ownsRow w0.heap.size Ty.uint8 1 (.slice B tot.length cb) tot.length (nums .u8 tot) → Below w0.heap.size w0 w' → K (.tuple #[.slice B tot.length cb, .int .i64 0]) w') :
    ∀ (d k : Nat) (w : World) (acc : List Int) (next : Int) (B : Option Addr) (cb : Nat), k + d = m → Below w0.heap.size w0 w → w.ownsRow w0.heap.size Ty.uint8 1 (.slice B acc.length cb) acc.length (nums .u8 acc) → acc.length ≤ 10 + 10 * k → acc ++ encT next (l.drop k) = tot → 0 ≤ next → next ≤ 65535 + 8 → next % 8 = 0 → rightFrom 65535 next (l.drop k) = true →
    reloc_Bytes.l0 K (d + 1) B acc.length cb next A m c m k w := by
  intro d
  induction d with
  | zero =>
    intro k w acc next B cb hk hb ho hal he h0 h1 h8 hr
    rw [reloc_Bytes.l0_succ]
    refine cond_dec (fun h => by omega) (fun _ => ?_)
    rw [List.drop_of_length_le (by omega)] at he
    simp only [encT, List.append_nil] at he
    subst he
    exact hK B cb w ho hb
  | succ d ih =>
    intro k w acc next B cb hk hb ho hal he h0 h1 h8 hr
    rw [reloc_Bytes.l0_succ]
    refine cond_dec (fun _ => ?_) (fun h => absurd h (by omega))
    have hlt : k < l.length := by omega
    have hxk : l[k]? = some l[k] := List.getElem?_eq_getElem hlt
    obtain ⟨a, rfl, c0⟩ := (hx.below hb).at (nums_at hxk)
    rw [List.drop_eq_getElem_cons hlt] at he hr
    rw [rightFrom] at hr
    rw [encT] at he
    by_cases hbad : l[k] < next ∨ l[k] % 8 ≠ 0 ∨ imax 0 65535 - 8 < l[k]
    · rw [if_pos hbad] at hr; cases hr
    rw [if_neg hbad] at hr
    have e5 : imax 0 65535 = 65535 := rfl
    rw [e5] at hbad
    have e1 : IntKind.wrap .u64 (IntKind.wrap .i64 (Int.tdiv (IntKind.wrap .i64 (l[k] - next)) 8)) = (l[k] - next) / 8 := by
      rw [wrap64_in (x := l[k] - next) (by omega) (by omega), Int.tdiv_eq_ediv_of_nonneg (by omega), wrap64_in (x := (l[k] - next) / 8) (by omega) (by omega), wrapu64_in (by omega) (by omega)]
    refine ⟨⟨by omega, by omega⟩, a, rfl, _, c0, by decide, ?_⟩
    rw [e1]
    refine num_Var_c ⟨by omega, by omega⟩ fun A2 c2 w2 o2 b2 => ⟨_, _, _, rfl, ?_⟩
    have hb2 := hb.trans (b2.mono hb.size)
    have hvl := varF_len 9 ((l[k] - next) / 8)
    have ho2 := own_below_kp ho b2
    refine app_bytes ho2 rfl (Cs.ofOwn o2) (by unfold varB; omega) hb2.size fun A' c' w3 ho3 hm3 => ⟨_, _, _, rfl, ?_⟩
    rw [wrap64_in (x := l[k] + 8) (by omega) (by omega), cst k (by omega)]
    have el : acc.length + (varB ((l[k] - next) / 8)).length = (acc ++ varB ((l[k] - next) / 8)).length := by simp
    rw [el] at ho3 ⊢
    refine ih (k + 1) w3 _ (l[k] + 8) A' c' (by omega) (hb2.trans (hm3.kp.below hb2.size fun i hi e => by have := (own_lt ho2 e).1; omega)) ho3 (by rw [List.length_append]; unfold varB; omega) (by rw [List.append_assoc]; exact he) (by omega) (by omega) (by omega) hr
theorem reloc_Bytes_c {w : World} {A : Option Addr} {m c : Nat} {l : List Int} {K : Value → World → Prop} (hx : Cs w A (nums .i64 l)) (hm : m = l.length) (hl : m ≤ 1000000000000000) (hi : ∀ x ∈ l, I64 x)
    (hN : rightV l 65535 = false → K (.tuple #[.slice none 0 0, .int .i64 4]) w) (hK : rightV l 65535 = true → ∀ B cb w', w'.ownsRow w.heap.size Ty.uint8 1 (.slice B (tabB l).length cb) (tabB l).length (nums .u8 (tabB l)) → Below w.heap.size w w' → K (.tuple #[.slice B (tabB l).length cb, .int .i64 0]) w') :
    CallsE Pg reloc_Bytes.N #[.slice A m c] w K := by
  refine reloc_Bytes.ok (reloc_Right_c hx hm ⟨by decide, by decide⟩ hi ⟨_, rfl, ?_⟩)
  cases hr : rightV l 65535 with
  | false => exact hN hr
  | true =>
    have hK := hK hr
    unfold rightV at hr
    by_cases hlen : 8192 < l.length
    · rw [if_pos hlen] at hr; cases hr
    rw [if_neg hlen] at hr
    refine condP_nt ?_
    have e1 : IntKind.wrap .u64 (m : Int) = l.length := by rw [wrapu64_in (by omega) (by omega), hm]
    unfold reloc_Bytes.p1
    rw [e1]
    refine num_Var_c ⟨by omega, by omega⟩ fun A2 c2 w2 o2 b2 => ⟨_, _, _, rfl, m + 1, ?_⟩
    have hvl := varF_len 9 (l.length : Int)
    exact tab_loop (w0 := w) hx hm (by omega) hK m 0 w2 _ 0 A2 c2 (by omega) b2 o2 (by unfold varB; omega) rfl (by decide) (by decide) (by decide) hr
theorem rtab_loop {w0 : World} {A : Option Addr} {m c : Nat} {l : List Int} {tot : List Int} {K : Value → World → Prop} (hx : Cs w0 A (nums .i64 l)) (hm : m = l.length) (hl : m ≤ 8192)
    (hK : ∀ B cb w', w'.ownsRow w0.heap.size Ty.uint8 1 (.slice B tot.length cb) tot.length (nums .u8 tot) → Below w0.heap.size w0 w' → K (.tuple #[.slice B tot.length cb, .int .i64 0]) w') :
    ∀ (d k : Nat) (w : World) (acc : List Int) (next : Int) (B : Option Addr) (cb : Nat), k + d = m → Below w0.heap.size w0 w → w.ownsRow w0.heap.size Ty.uint8 1 (.slice B acc.length cb) acc.length (nums .u8 acc) → acc.length ≤ 10 + 10 * k → acc ++ encT (8 * next) (l.drop k) = tot → 0 ≤ next → next ≤ 8192 → rightFrom 65535 (8 * next) (l.drop k) = true →
    ref16_Bytes.l0 K (d + 1) B acc.length cb next A m c m k w := by
  intro d
  induction d with
  | zero =>
    intro k w acc next B cb hk hb ho hal he h0 h1 hr
    rw [ref16_Bytes.l0_succ]
    refine cond_dec (fun h => by omega) (fun _ => ?_)
    rw [List.drop_of_length_le (by omega)] at he
    simp only [encT, List.append_nil] at he
    subst he
    exact hK B cb w ho hb
  | succ d ih =>
    intro k w acc next B cb hk hb ho hal he h0 h1 hr
    rw [ref16_Bytes.l0_succ]
    refine cond_dec (fun _ => ?_) (fun h => absurd h (by omega))
    have hlt : k < l.length := by omega
    have hxk : l[k]? = some l[k] := List.getElem?_eq_getElem hlt
    obtain ⟨a, rfl, c0⟩ := (hx.below hb).at (nums_at hxk)
    rw [List.drop_eq_getElem_cons hlt] at he hr
    rw [rightFrom] at hr
    rw [encT] at he
    by_cases hbad : l[k] < 8 * next ∨ l[k] % 8 ≠ 0 ∨ imax 0 65535 - 8 < l[k]
    · rw [if_pos hbad] at hr; cases hr
    rw [if_neg hbad] at hr
    have e5 : imax 0 65535 = 65535 := rfl
    rw [e5] at hbad
    have ed : IntKind.wrap .i64 (Int.tdiv l[k] 8) = l[k] / 8 := by rw [Int.tdiv_eq_ediv_of_nonneg (by omega), wrap64_in (by omega) (by omega)]
    have e1 : IntKind.wrap .u64 (IntKind.wrap .i64 (l[k] / 8 - next)) = (l[k] - 8 * next) / 8 := by
      rw [wrap64_in (by omega) (by omega), wrapu64_in (by omega) (by omega)]; omega
    refine ⟨⟨by omega, by omega⟩, a, rfl, _, c0, by decide, ?_⟩
    rw [ed, e1]
    refine ref01_Var_c ⟨by omega, by omega⟩ fun A2 c2 w2 o2 b2 => ⟨_, _, _, rfl, ?_⟩
    have hb2 := hb.trans (b2.mono hb.size)
    have hvl := varF_len 9 ((l[k] - 8 * next) / 8)
    have ho2 := own_below_kp ho b2
    refine app_bytes ho2 rfl (Cs.ofOwn o2) (by unfold varB; omega) hb2.size fun A' c' w3 ho3 hm3 => ⟨_, _, _, rfl, by decide, ?_⟩
    rw [wrap64_in (x := l[k] / 8 + 1) (by omega) (by omega), cst k (by omega)]
    have el : acc.length + (varB ((l[k] - 8 * next) / 8)).length = (acc ++ varB ((l[k] - 8 * next) / 8)).length := by simp
    rw [el] at ho3 ⊢
    have e8 : 8 * (l[k] / 8 + 1) = l[k] + 8 := by omega
    refine ih (k + 1) w3 _ (l[k] / 8 + 1) A' c' (by omega) (hb2.trans (hm3.kp.below hb2.size fun i hi e => by have := (own_lt ho2 e).1; omega)) ho3 (by rw [List.length_append]; unfold varB; omega) (by rw [List.append_assoc, e8]; exact he) (by omega) (by omega) (by rw [e8]; exact hr)
theorem ref16_Bytes_c {w : World} {A : Option Addr} {m c : Nat} {l : List Int} {K : Value → World → Prop} (hx : Cs w A (nums .i64 l)) (hm : m = l.length) (hl : m ≤ 1000000000000000) (hi : ∀ x ∈ l, I64 x)
    (hN : rightV l 65535 = false → K (.tuple #[.slice none 0 0, .int .i64 4]) w) (hK : rightV l 65535 = true → ∀ B cb w', w'.ownsRow w.heap.size Ty.uint8 1 (.slice B (tabB l).length cb) (tabB l).length (nums .u8 (tabB l)) → Below w.heap.size w w' → K (.tuple #[.slice B (tabB l).length cb, .int .i64 0]) w') :
    CallsE Pg ref16_Bytes.N #[.slice A m c] w K := by
  refine ref16_Bytes.ok (ref16_Right_c hx hm ⟨by decide, by decide⟩ hi ⟨_, rfl, ?_⟩)
  cases hr : rightV l 65535 with
  | false => exact hN hr
  | true =>
    have hK := hK hr
    unfold rightV at hr
    by_cases hlen : 8192 < l.length
    · rw [if_pos hlen] at hr; cases hr
    rw [if_neg hlen] at hr
    refine condP_nt ?_
    have e1 : IntKind.wrap .u64 (m : Int) = l.length := by rw [wrapu64_in (by omega) (by omega), hm]
    unfold ref16_Bytes.p1
    rw [e1]
    refine ref01_Var_c ⟨by omega, by omega⟩ fun A2 c2 w2 o2 b2 => ⟨_, _, _, rfl, m + 1, ?_⟩
    have hvl := varF_len 9 (l.length : Int)
    exact rtab_loop (w0 := w) hx hm (by omega) hK m 0 w2 _ 0 A2 c2 (by omega) b2 o2 (by unfold varB; omega) rfl (by decide) (by decide) hr
/-! ### what is written of a number is read as that number -/
theorem scan_varB : ∀ (f i : Nat) (acc n : Int) (rest : List Int), f + i = 9 → 0 ≤ n → (0 < i → 1 ≤ n) → n * ((128 ^ i : Nat) : Int) < 18446744073709551616 → scan i acc (varF f n ++ rest) = (acc + n * ((128 ^ i : Nat) : Int), 0, i + (varF f n).length)
  | 0, i, acc, n, rest, hi, h0, h1, hb => by
    obtain rfl : i = 9 := by omega
    have hn := h1 (by decide)
    have e9 : ((128 ^ 9 : Nat) : Int) = 9223372036854775808 := by decide
    rw [e9] at hb ⊢
    rw [varF, List.singleton_append, scan, if_neg (by omega), if_pos (by omega), e9]
    rfl
  | f + 1, i, acc, n, rest, hi, h0, h1, hb => by
    by_cases h : n < 128
    · rw [varF, if_pos h, List.singleton_append, scan, if_neg (by omega), if_pos h]
      rfl
    · rw [varF, if_neg h, List.cons_append, scan, if_neg (by omega), if_neg (by omega)]
      have ep : ((128 ^ (i + 1) : Nat) : Int) = 128 * ((128 ^ i : Nat) : Int) := by rw [Nat.pow_succ]; push_cast; omega
      have hp : (0 : Int) < ((128 ^ i : Nat) : Int) := by have := Nat.pow_pos (n := i) (show 0 < 128 by decide); omega
      have em : (n % 128 + 128) % 128 = n % 128 := by omega
      have eq : n / 128 * ((128 ^ (i + 1) : Nat) : Int) + n % 128 * ((128 ^ i : Nat) : Int) = n * ((128 ^ i : Nat) : Int) := by
        have hn : n = n / 128 * 128 + n % 128 := by omega
        rw [ep]
        conv => rhs; rw [hn, Int.add_mul]
        rw [← Int.mul_assoc]
      have hr : (0 : Int) ≤ n % 128 * ((128 ^ i : Nat) : Int) := Int.mul_nonneg (by omega) (by omega)
      have ih := scan_varB f (i + 1) (acc + (n % 128 + 128) % 128 * ((128 ^ i : Nat) : Int)) (n / 128) rest (by omega) (by omega) (fun _ => by omega) (by omega)
      rw [ih, em, List.length_cons]
      refine Prod.ext ?_ (Prod.ext rfl ?_)
      · show acc + n % 128 * ((128 ^ i : Nat) : Int) + n / 128 * ((128 ^ (i + 1) : Nat) : Int) = acc + n * ((128 ^ i : Nat) : Int)
        omega
      · show i + 1 + (varF f (n / 128)).length = i + ((varF f (n / 128)).length + 1)
        omega
theorem scan_back {n : Int} (h : U64 n) (rest : List Int) : scan 0 0 (varB n ++ rest) = (n, 0, (varB n).length) := by
  have := scan_varB 9 0 0 n rest rfl h.1 (fun h => by omega) (by have := h.2; simp; omega)
  unfold varB
  rw [this]
  simp
/-- The places behind. -/
theorem right_cons {nb : Nat} {next x : Int} {l : List Int} (h0 : 0 ≤ next) (h : rightFrom nb next (x :: l) = true) : next ≤ x ∧ x % 8 = 0 ∧ x + 8 ≤ nb ∧ rightFrom nb (x + 8) l = true := by
  rw [rightFrom] at h
  by_cases hbad : x < next ∨ x % 8 ≠ 0 ∨ imax 0 (nb : Int) - 8 < x
  · rw [if_pos hbad] at h; cases h
  rw [if_neg hbad] at h
  have hmx : imax 0 (nb : Int) = nb := by unfold imax; split <;> omega
  rw [hmx] at hbad
  exact ⟨by omega, by omega, by omega, h⟩
/-! one cell of a row of one's own -/
theorem own_set1 {w : World} {base n c : Nat} {e : TypeId} {a : Addr} {cs : List Value} {k : Nat} {v : Value} {Q : World → Prop} (h : w.ownsRow base e 1 (.slice (some a) n c) n cs) (hk : k < cs.length)
    (hQ : ∀ w', w'.ownsRow base e 1 (.slice (some a) n c) n (cs.set k v) → Kp (· = a.block) w w' → w'.heap.size = w.heap.size → Q w') : canStore w (a.add k) ∧ wlet (w.setCell (a.add k) v) Q := by
  have hf : ∀ l : List Value, l.flatMap (fun x => [x]) = l := fun l => by induction l with | nil => rfl | cons x l ih => rw [List.flatMap_cons, ih]; rfl
  have := own_stores (m := 1) (f := fun x : Value => [x]) (l := cs) (k := k) (i := 0) (x := cs[k]) (y := v) (vs := [v]) (Q := Q) (by rw [hf]; exact h) (fun _ => rfl) (List.getElem?_eq_getElem hk) (Nat.le_refl 1) rfl (by rw [hf]; exact hQ)
  rw [Nat.mul_one] at this
  exact this
theorem nums_set (k : IntKind) (xs : List Int) (i : Nat) (y : Int) : (nums k xs).set i (.int k y) = nums k (xs.set i y) := by simp [nums, List.map_set]
/-! ### what bytes read as a table are -/
def readF : Nat → Int → List Int → Int → List Int × Int × List Int
  | 0, _, left, err => ([], err, left)
  | n + 1, next, left, err => if err ≠ 0 then ([], err, left) else
      ((next + 8 * uVal left 0 8192) :: (readF n (next + 8 * uVal left 0 8192 + 8) (uLeft left 0 8192) (if 65527 < next + 8 * uVal left 0 8192 then failV (uErr left 0 8192) 4 else uErr left 0 8192)).1,
        (readF n (next + 8 * uVal left 0 8192 + 8) (uLeft left 0 8192) (if 65527 < next + 8 * uVal left 0 8192 then failV (uErr left 0 8192) 4 else uErr left 0 8192)).2)
theorem readF_err {err : Int} (h : err ≠ 0) : ∀ (n : Nat) (next : Int) (left : List Int), readF n next left err = ([], err, left)
  | 0, _, _ => rfl
  | n + 1, next, left => by rw [readF, if_pos h]
def readT (left : List Int) : List Int × Int × List Int := readF (uVal left 0 8192).toNat 0 (uLeft left 0 8192) (uErr left 0 8192)
def readV (left : List Int) : List Int := if (readT left).2.1 ≠ 0 then [] else (readT left).1
theorem scan_nn : ∀ (cs : List Int) (i : Nat) (acc : Int), 0 ≤ acc → Bytes cs → 0 ≤ (scan i acc cs).1
  | [], _, _, _, _ => Int.le_refl _
  | c :: cs, i, acc, h, hb => by
    have hc := hb c (by simp)
    have hp : (0 : Int) ≤ ((128 ^ i : Nat) : Int) := Int.natCast_nonneg _
    unfold scan
    split
    · exact Int.le_refl _
    · split
      · exact Int.add_nonneg h (Int.mul_nonneg hc.1 hp)
      · exact scan_nn cs (i + 1) _ (Int.add_nonneg h (Int.mul_nonneg (by omega) hp)) (fun x hx => hb x (List.mem_cons_of_mem _ hx))
theorem uVal_range {left : List Int} {err most : Int} (hb : Bytes left) (hm : 0 ≤ most) : 0 ≤ uVal left err most ∧ uVal left err most ≤ most := by
  have h : 0 ≤ vVal left err := by
    unfold vVal
    split
    · exact Int.le_refl _
    · exact scan_nn left 0 0 (Int.le_refl _) hb
  unfold uVal
  split <;> omega
theorem vback {d : Int} {rest : List Int} (h : U64 d) : vVal (varB d ++ rest) 0 = d ∧ vErr (varB d ++ rest) 0 = 0 ∧ vLeft (varB d ++ rest) 0 = rest := by
  have hs := scan_back h rest
  have e0 : ¬ ((0 : Int) ≠ 0) := fun h => h rfl
  unfold vVal vErr vLeft
  rw [if_neg e0, if_neg e0, if_neg e0, hs]
  exact ⟨rfl, rfl, by simp⟩
theorem uback {d most : Int} {rest : List Int} (h : U64 d) (hm : d ≤ most) : uVal (varB d ++ rest) 0 most = d ∧ uErr (varB d ++ rest) 0 most = 0 ∧ uLeft (varB d ++ rest) 0 most = rest := by
  obtain ⟨h1, h2, h3⟩ := vback (rest := rest) h
  unfold uVal uErr uLeft
  rw [h1, if_neg (by omega), if_neg (by omega), if_neg (by omega)]
  exact ⟨rfl, h2, h3⟩
theorem readF_back : ∀ (l : List Int) (next : Int) (more : List Int), 0 ≤ next → next % 8 = 0 → rightFrom 65535 next l = true → readF l.length next (encT next l ++ more) 0 = (l, 0, more)
  | [], next, more, _, _, _ => rfl
  | x :: l, next, more, h0, h8, hr => by
    rw [rightFrom] at hr
    by_cases hb : x < next ∨ x % 8 ≠ 0 ∨ imax 0 65535 - 8 < x
    · rw [if_pos hb] at hr; cases hr
    rw [if_neg hb] at hr
    have e : imax 0 65535 = 65535 := rfl
    rw [e] at hb
    obtain ⟨u1, u2, u3⟩ := uback (d := (x - next) / 8) (most := 8192) (rest := encT (x + 8) l ++ more) ⟨by omega, by omega⟩ (by omega)
    rw [List.length_cons, encT, List.append_assoc, readF, if_neg (fun h => h rfl), u1, u2, u3]
    have ex : next + 8 * ((x - next) / 8) = x := by omega
    rw [ex, if_neg (by omega), readF_back l (x + 8) more (by omega) (by omega) hr]
theorem readT_back {l more : List Int} (hr : rightV l 65535 = true) : readT (tabB l ++ more) = (l, 0, more) := by
  unfold rightV at hr
  by_cases hl : 8192 < l.length
  · rw [if_pos hl] at hr; cases hr
  rw [if_neg hl] at hr
  unfold readT tabB
  obtain ⟨u1, u2, u3⟩ := uback (d := (l.length : Int)) (most := 8192) (rest := encT 0 l ++ more) ⟨by omega, by omega⟩ (by omega)
  rw [List.append_assoc, u1, u2, u3, Int.toNat_natCast]
  exact readF_back l 0 more (by decide) (by decide) hr
/-- What is read without a fault is what is written of it. -/
theorem uone {left : List Int} {most : Int} (hb : Bytes left) (he : uErr left 0 most = 0) : left = varB (uVal left 0 most) ++ uLeft left 0 most := by
  unfold uErr at he
  unfold uVal uLeft
  by_cases h : most < vVal left 0
  · rw [if_pos h] at he; cases he
  rw [if_neg h] at he ⊢
  rw [if_neg h]
  have e0 : ¬ ((0 : Int) ≠ 0) := fun h => h rfl
  unfold vErr at he
  unfold vVal vLeft
  rw [if_neg e0] at he ⊢
  rw [if_neg e0]
  cases hs : scan 0 0 left with
  | mk v r =>
    obtain ⟨e, u⟩ := r
    rw [hs] at he
    simp only at he
    subst he
    obtain ⟨val, hv, hv0, _, hu, ht, hlt⟩ := scan_var left 0 0 v u hs (by decide) hb (by decide) (by decide)
    have hval : v = val := by rw [hv]; simp
    subst hval
    simp only [Nat.sub_zero] at ht
    show left = varF 9 v ++ left.drop u
    rw [← ht, List.take_append_drop]
theorem readF_one : ∀ (n : Nat) (next : Int) (left out left' : List Int), Bytes left → 0 ≤ next → next % 8 = 0 → readF n next left 0 = (out, 0, left') → rightFrom 65535 next out = true ∧ left = encT next out ++ left' ∧ out.length = n
  | 0, next, left, out, left', _, _, _, h => by
    rw [readF] at h
    simp only [Prod.mk.injEq] at h
    obtain ⟨rfl, _, rfl⟩ := h
    exact ⟨rfl, rfl, rfl⟩
  | n + 1, next, left, out, left', hb, h0, h8, h => by
    rw [readF, if_neg (fun h => h rfl)] at h
    have hu := uVal_range (err := 0) (most := 8192) hb (by decide)
    have hbl : Bytes (uLeft left 0 8192) := uLeft_bytes hb
    have hone := uone (most := 8192) hb
    generalize uVal left 0 8192 = v at h hu hone
    generalize uLeft left 0 8192 = lf at h hbl hone
    generalize uErr left 0 8192 = e at h hone
    by_cases he : (if 65527 < next + 8 * v then failV e 4 else e) = 0
    · by_cases hx : 65527 < next + 8 * v
      · rw [if_pos hx] at he
        unfold failV at he
        split at he <;> omega
      rw [if_neg hx] at he h
      subst he
      cases hr : readF n (next + 8 * v + 8) lf 0 with
      | mk o r =>
        obtain ⟨e', l'⟩ := r
        rw [hr] at h
        simp only [Prod.mk.injEq] at h
        obtain ⟨rfl, rfl, rfl⟩ := h
        obtain ⟨i1, i2, i3⟩ := readF_one n _ lf o _ hbl (by omega) (by omega) hr
        refine ⟨?_, ?_, by rw [List.length_cons, i3]⟩
        · have e5 : imax 0 65535 = 65535 := rfl
          rw [rightFrom, e5, if_neg (by omega)]
          exact i1
        · have ev : (next + 8 * v - next) / 8 = v := by omega
          rw [encT, ev, List.append_assoc, ← i2]
          exact hone rfl
    · rw [readF_err he] at h
      simp only [Prod.mk.injEq] at h
      exact absurd h.2.1 he
theorem readT_one {left out left' : List Int} (hb : Bytes left) (h : readT left = (out, 0, left')) : rightV out 65535 = true ∧ left = tabB out ++ left' := by
  unfold readT at h
  have hu := uVal_range (err := 0) (most := 8192) hb (by decide)
  have hone := uone (most := 8192) hb
  have hbl : Bytes (uLeft left 0 8192) := uLeft_bytes hb
  generalize uVal left 0 8192 = v at h hu hone
  generalize uLeft left 0 8192 = lf at h hbl hone
  generalize uErr left 0 8192 = e at h hone
  by_cases he : e = 0
  · subst he
    obtain ⟨h1, h2, h3⟩ := readF_one _ _ lf out left' hbl (by decide) (by decide) h
    unfold rightV tabB
    rw [if_neg (by omega)]
    refine ⟨h1, ?_⟩
    have ev : (out.length : Int) = v := by omega
    rw [ev, List.append_assoc, ← h2]
    exact hone rfl
  · rw [readF_err he] at h
    simp only [Prod.mk.injEq] at h
    exact absurd h.2.1 he
theorem readF_len : ∀ (n : Nat) (next : Int) (left : List Int) (err : Int), (readF n next left err).1.length ≤ n ∧ (readF n next left err).2.2.length ≤ left.length
  | 0, _, _, _ => ⟨Nat.le_refl _, Nat.le_refl _⟩
  | n + 1, next, left, err => by
    rw [readF]
    split
    · exact ⟨by simp, Nat.le_refl _⟩
    · obtain ⟨h1, h2⟩ := readF_len n (next + 8 * uVal left 0 8192 + 8) (uLeft left 0 8192) (if 65527 < next + 8 * uVal left 0 8192 then failV (uErr left 0 8192) 4 else uErr left 0 8192)
      exact ⟨by rw [List.length_cons]; omega, Nat.le_trans h2 uLeft_len⟩
/-! ### the two readers of a table -/
theorem RdV.b_lt {ty : TypeId} {w : World} {b : Nat} {p : Option Addr} {left : List Int} {err : Int} {F : Nat → Prop} (h : RdV ty w b p left err F) {i : Nat} (hi : C.pt p i) : i < w.heap.size := (h.lt (h.pt hi)).2
theorem own_app {w0 w : World} {v : Value} {n : Nat} {F : Nat → Prop} {l : List Value} {e : TypeId} (ho : w.ownsRow w0.heap.size e 1 v n l) (hF : ∀ i, F i → i < w0.heap.size) : ∀ i, F i → ¬ v.ownBlock = some i := fun i hi h => by
  have := (own_lt ho h).1
  have := hF i hi
  omega
theorem kp_app {S : Nat → Prop} {w0 w w' : World} {v : Value} {n : Nat} {l : List Value} {e : TypeId} {F' : Nat → Prop} (k : Kp S w0 w) (ho : w.ownsRow w0.heap.size e 1 v n l) (hm : Mv (fun g => v.ownBlock = some g) w w' F') : Kp S w0 w' :=
  k.trans hm.kp (fun _ _ h => h) (fun i hi h => by have := (own_lt ho h).1; omega)
theorem num_read_loop {w0 : World} {b : Nat} {p : Option Addr} {F : Nat → Prop} {tot : List Int × Int × List Int} {K : Value → World → Prop} (hF : ∀ i, F i → i < w0.heap.size)
    (hK : ∀ B m cb w', m = (if tot.2.1 ≠ 0 then [] else tot.1).length → w'.ownsRow w0.heap.size Ty.int 1 (.slice B m cb) m (nums .i64 (if tot.2.1 ≠ 0 then [] else tot.1)) → RdV Ty.num_Reader w' b p tot.2.2 tot.2.1 F → Kp (pt p) w0 w' → K (.slice B m cb) w') :
    ∀ (d : Nat) (w : World) (left acc : List Int) (err next : Int) (A : Option Addr) (c : Nat), RdV Ty.num_Reader w b p left err F → Bytes left → left.length ≤ 1000000000000000 → Kp (pt p) w0 w → w.ownsRow w0.heap.size Ty.int 1 (.slice A acc.length c) acc.length (nums .i64 acc) → acc.length + d ≤ 8192 →
    0 ≤ next → next ≤ (acc.length : Int) * 70000 → acc ++ (readF d next left err).1 = tot.1 → (readF d next left err).2 = tot.2 → reloc_Read.l0 K (d + 1) p A acc.length c next d w := by
  have fin : ∀ (w : World) (left acc : List Int) (err : Int) (A : Option Addr) (c : Nat), RdV Ty.num_Reader w b p left err F → Kp (pt p) w0 w → w.ownsRow w0.heap.size Ty.int 1 (.slice A acc.length c) acc.length (nums .i64 acc) → acc = tot.1 → (err, left) = tot.2 → reloc_Read.p9 K p A acc.length c w := fun w left acc err A c hR hk ho e1 e2 => by
    refine num_Reader_Err_c hR ⟨_, rfl, ?_⟩
    have e3 : tot.2.1 = err := by rw [← e2]
    have e4 : tot.2.2 = left := by rw [← e2]
    rw [e3, e4, ← e1] at hK
    refine cond_ne (fun h => ?_) (fun h => ?_)
    · rw [if_pos h] at hK
      exact hK none 0 0 w rfl (World.ownsRow_nil _ _ _ _) hR hk
    · rw [if_neg (fun g => g h)] at hK
      exact hK A _ c w rfl ho hR hk
  intro d
  induction d with
  | zero =>
    intro w left acc err next A c hR hb hl hk ho hn h0 h1 e1 e2
    rw [reloc_Read.l0_succ]
    refine cond_dec (fun h => by simp at h) (fun _ => ?_)
    rw [readF, List.append_nil] at e1
    exact fin w left acc err A c hR hk ho e1 e2
  | succ d ih =>
    intro w left acc err next A c hR hb hl hk ho hn h0 h1 e1 e2
    rw [reloc_Read.l0_succ]
    refine cond_dec (fun _ => ?_) (fun h => absurd h (by push_cast; omega))
    refine num_Reader_Err_c hR ⟨_, rfl, cond_eq (fun he => ?_) (fun he => ?_)⟩
    · subst he
      rw [readF, if_neg (fun h => h rfl)] at e1 e2
      refine num_Reader_Upto_c hR hb hl fun w1 hR1 k1 => ⟨_, rfl, ?_⟩
      have hu := uVal_range (err := 0) (most := 8192) hb (by decide)
      have hbl : Bytes (uLeft left 0 8192) := uLeft_bytes hb
      have hll : (uLeft left 0 8192).length ≤ left.length := uLeft_len
      generalize uVal left 0 8192 = v at e1 e2 hu
      generalize uLeft left 0 8192 = lf at e1 e2 hR1 hbl hll
      generalize uErr left 0 8192 = e at e1 e2 hR1
      have k1' := hk.trans k1 (fun _ _ h => h) (fun _ _ h => h)
      have ho1 := own_kp ho k1 (fun g hg hp => own_app ho hF g (hR.pt hp) hg)
      have ex : IntKind.wrap .i64 (next + (IntKind.wrap .i64 (8 * (IntKind.wrap .i64 v)))) = next + 8 * v := by
        rw [wrap64_in (x := v) (by omega) (by omega), wrap64_in (x := 8 * v) (by omega) (by omega), wrap64_in (by omega) (by omega)]
      rw [ex]
      have go : ∀ (w2 : World) (e' : Int), RdV Ty.num_Reader w2 b p lf e' F → Kp (pt p) w0 w2 → w2.ownsRow w0.heap.size Ty.int 1 (.slice A acc.length c) acc.length (nums .i64 acc) → acc ++ (next + 8 * v) :: (readF d (next + 8 * v + 8) lf e').1 = tot.1 → (readF d (next + 8 * v + 8) lf e').2 = tot.2 →
          reloc_Read.p7 (reloc_Read.l0 K (d + 1)) K p A acc.length c ((d + 1 : Nat) : Int) (next + 8 * v) w2 := fun w2 e' hR2 k2 ho2 f1 f2 => by
        refine wlet_intro fun w3 h3 => ?_
        have hal : Below w2.heap.size w2 w3 := by rw [h3]; exact (Below.refl _ _).alloc (Nat.le_refl _) _
        have hz : Blk w3 w2.heap.size Ty.int (nums .i64 [next + 8 * v]) := by rw [h3]; exact Blk.new w2 Ty.int _
        clear h3
        have ho3 := own_below_kp ho2 hal
        have k3 := k2.trans (Kp.of_below hal) (fun _ _ h => h) (fun _ _ h => h.elim)
        refine app_i64 (m := 1) ho3 rfl (Cs.of_blk0 hz) (by omega) k3.size fun A' c' w4 ho4 hm4 => ⟨_, _, _, rfl, ?_⟩
        have hR4 := (hR2.below hal).kp hm4.kp (own_app ho3 hF)
        have k4 := kp_app k3 ho3 hm4
        show reloc_Read.l0 K (d + 1) p A' _ c' (IntKind.wrap .i64 (next + 8 * v + 8)) (IntKind.wrap .u64 (((d + 1 : Nat) : Int) - 1)) w4
        have ed : IntKind.wrap .u64 (((d + 1 : Nat) : Int) - 1) = (d : Int) := by rw [wrapu64_in (by push_cast; omega) (by push_cast; omega)]; push_cast; omega
        rw [wrap64_in (x := next + 8 * v + 8) (by omega) (by omega), ed]
        have el : acc.length + 1 = (acc ++ [next + 8 * v]).length := by simp
        rw [el] at ho4 ⊢
        exact ih w4 lf _ e' _ A' c' hR4 hbl (by omega) k4 ho4 (by rw [← el]; omega) (by omega) (by rw [← el]; push_cast; omega) (by rw [List.append_assoc]; exact f1) f2
      refine cond_dec (fun hx => ?_) (fun hx => ?_)
      · rw [if_pos hx] at e1 e2
        refine num_Reader_Fail_c hR1 fun w2 hR2 k2 => ⟨rfl, ?_⟩
        exact go w2 _ hR2 (k1'.trans k2 (fun _ _ h => h) (fun _ _ h => h)) (own_kp ho1 k2 (fun g hg hp => own_app ho hF g (hR.pt hp) hg)) e1 e2
      · rw [if_neg hx] at e1 e2
        exact go w1 _ hR1 k1' ho1 e1 e2
    · rw [readF_err he] at e1 e2
      rw [List.append_nil] at e1
      exact fin w left acc err A c hR hk ho e1 e2
theorem reloc_Read_c {w : World} {b : Nat} {p : Option Addr} {left : List Int} {F : Nat → Prop} {K : Value → World → Prop} (hR : RdV Ty.num_Reader w b p left 0 F) (hb : Bytes left) (hl : left.length ≤ 1000000000000000)
    (hK : ∀ B m cb w', m = (readV left).length → w'.ownsRow w.heap.size Ty.int 1 (.slice B m cb) m (nums .i64 (readV left)) → RdV Ty.num_Reader w' b p (readT left).2.2 (readT left).2.1 F → Kp (pt p) w w' → K (.slice B m cb) w') : CallsE Pg reloc_Read.N #[.pointer p] w K := by
  refine reloc_Read.ok ?_
  refine num_Reader_Upto_c hR hb hl fun w1 hR1 k1 => ⟨_, rfl, (uVal left 0 8192).toNat + 1, ?_⟩
  have hu := uVal_range (err := 0) (most := 8192) hb (by decide)
  have hll : (uLeft left 0 8192).length ≤ left.length := uLeft_len
  obtain ⟨n, hn⟩ : ∃ n : Nat, uVal left 0 8192 = n := ⟨_, (Int.toNat_of_nonneg hu.1).symm⟩
  have := num_read_loop (w0 := w) (tot := readT left) (fun i hi => (hR.lt hi).2) hK n w1 (uLeft left 0 8192) [] (uErr left 0 8192) 0 none 0 hR1 (uLeft_bytes hb) (by omega) k1 (World.ownsRow_nil _ _ _ _) (by simp; omega) (by decide) (by decide)
    (by unfold readT; rw [hn, Int.toNat_natCast, List.nil_append]) (by unfold readT; rw [hn, Int.toNat_natCast])
  rw [hn, Int.toNat_natCast]
  exact this
theorem RdV.err_cell {ty : TypeId} {w : World} {b : Nat} {p : Option Addr} {left : List Int} {err : Int} {F : Nat → Prop} (h : RdV ty w b p left err F) : ∃ a, p = some a ∧ w.cell? (a.add 1) = some (.int .i64 err) := by
  obtain ⟨t, A, c, rfl, hbt, hB, hc, hx, hg, rfl⟩ := h
  exact ⟨_, rfl, hB.cell' (j := 1) rfl⟩
theorem ref_read_loop {w0 : World} {b : Nat} {p : Option Addr} {F : Nat → Prop} {tot : List Int × Int × List Int} {n : Nat} {K : Value → World → Prop} (hF : ∀ i, F i → i < w0.heap.size) (hn8 : n ≤ 8192)
    (hK : ∀ B m cb w', m = (if tot.2.1 ≠ 0 then [] else tot.1).length → w'.ownsRow w0.heap.size Ty.int 1 (.slice B m cb) m (nums .i64 (if tot.2.1 ≠ 0 then [] else tot.1)) → RdV Ty.ref01_Reader w' b p tot.2.2 tot.2.1 F → Kp (pt p) w0 w' → K (.slice B m cb) w') :
    ∀ (d : Nat) (w : World) (left acc : List Int) (err next : Int) (A : Option Addr) (c : Nat), RdV Ty.ref01_Reader w b p left err F → Bytes left → left.length ≤ 1000000000000000 → Kp (pt p) w0 w → w.ownsRow w0.heap.size Ty.int 1 (.slice A acc.length c) acc.length (nums .i64 acc) → acc.length + d = n →
    0 ≤ next → next ≤ (acc.length : Int) * 70000 → acc ++ (readF d (8 * next) left err).1 = tot.1 → (readF d (8 * next) left err).2 = tot.2 → ref16_Read.l0 K (d + 1) p n next A acc.length c acc.length w := by
  have fin : ∀ (w : World) (left acc : List Int) (err : Int) (A : Option Addr) (c : Nat), RdV Ty.ref01_Reader w b p left err F → Kp (pt p) w0 w → w.ownsRow w0.heap.size Ty.int 1 (.slice A acc.length c) acc.length (nums .i64 acc) → acc = tot.1 → (err, left) = tot.2 → ref16_Read.p11 K p A acc.length c w := fun w left acc err A c hR hk ho e1 e2 => by
    obtain ⟨a, ea, hc⟩ := hR.err_cell
    refine ⟨a, ea, _, hc, ?_⟩
    have e3 : tot.2.1 = err := by rw [← e2]
    have e4 : tot.2.2 = left := by rw [← e2]
    rw [e3, e4, ← e1] at hK
    refine cond_ne (fun h => ?_) (fun h => ?_)
    · rw [if_pos h] at hK
      exact hK none 0 0 w rfl (World.ownsRow_nil _ _ _ _) hR hk
    · rw [if_neg (fun g => g h)] at hK
      exact hK A _ c w rfl ho hR hk
  intro d
  induction d with
  | zero =>
    intro w left acc err next A c hR hb hl hk ho hn h0 h1 e1 e2
    rw [ref16_Read.l0_succ]
    refine cond_dec (fun h => by omega) (fun _ => ?_)
    rw [readF, List.append_nil] at e1
    exact fin w left acc err A c hR hk ho e1 e2
  | succ d ih =>
    intro w left acc err next A c hR hb hl hk ho hn h0 h1 e1 e2
    rw [ref16_Read.l0_succ]
    refine cond_dec (fun _ => ?_) (fun h => absurd h (by omega))
    obtain ⟨a, ea, hc⟩ := hR.err_cell
    refine ⟨a, ea, _, hc, cond_eq (fun he => ?_) (fun he => ?_)⟩
    · subst he
      rw [readF, if_neg (fun h => h rfl)] at e1 e2
      refine ref01_Reader_Upto_c hR hb hl (by decide) fun w1 hR1 k1 => ⟨_, rfl, ?_⟩
      have hu := uVal_range (err := 0) (most := 8192) hb (by decide)
      have hbl : Bytes (uLeft left 0 8192) := uLeft_bytes hb
      have hll : (uLeft left 0 8192).length ≤ left.length := uLeft_len
      generalize uVal left 0 8192 = v at e1 e2 hu
      generalize uLeft left 0 8192 = lf at e1 e2 hR1 hbl hll
      generalize uErr left 0 8192 = e at e1 e2 hR1
      have k1' := hk.trans k1 (fun _ _ h => h) (fun _ _ h => h)
      have ho1 := own_kp ho k1 (fun g hg hp => own_app ho hF g (hR.pt hp) hg)
      have ex : IntKind.wrap .i64 (next + IntKind.wrap .i64 v) = next + v := by rw [wrap64_in (x := v) (by omega) (by omega), wrap64_in (by omega) (by omega)]
      have e8 : IntKind.wrap .i64 (8 * (next + v)) = 8 * next + 8 * v := by rw [wrap64_in (by omega) (by omega)]; omega
      rw [ex]
      have go : ∀ (w2 : World) (e' : Int), RdV Ty.ref01_Reader w2 b p lf e' F → Kp (pt p) w0 w2 → w2.ownsRow w0.heap.size Ty.int 1 (.slice A acc.length c) acc.length (nums .i64 acc) → acc ++ (8 * next + 8 * v) :: (readF d (8 * next + 8 * v + 8) lf e').1 = tot.1 → (readF d (8 * next + 8 * v + 8) lf e').2 = tot.2 →
          ref16_Read.p9 (ref16_Read.l0 K (d + 1)) K p n A acc.length c acc.length (next + v) w2 := fun w2 e' hR2 k2 ho2 f1 f2 => by
        unfold ref16_Read.p9
        rw [e8]
        refine wlet_intro fun w3 h3 => ?_
        have hal : Below w2.heap.size w2 w3 := by rw [h3]; exact (Below.refl _ _).alloc (Nat.le_refl _) _
        have hz : Blk w3 w2.heap.size Ty.int (nums .i64 [8 * next + 8 * v]) := by rw [h3]; exact Blk.new w2 Ty.int _
        clear h3
        have ho3 := own_below_kp ho2 hal
        have k3 := k2.trans (Kp.of_below hal) (fun _ _ h => h) (fun _ _ h => h.elim)
        refine app_i64 (m := 1) ho3 rfl (Cs.of_blk0 hz) (by omega) k3.size fun A' c' w4 ho4 hm4 => ⟨_, _, _, rfl, ?_⟩
        have hR4 := (hR2.below hal).kp hm4.kp (own_app ho3 hF)
        have k4 := kp_app k3 ho3 hm4
        show ref16_Read.l0 K (d + 1) p n (IntKind.wrap .i64 (next + v + 1)) A' _ c' (IntKind.wrap .i64 ((acc.length : Int) + 1)) w4
        rw [wrap64_in (x := next + v + 1) (by omega) (by omega), cst acc.length (by omega)]
        have el : acc.length + 1 = (acc ++ [8 * next + 8 * v]).length := by simp
        rw [el] at ho4 ⊢
        have e88 : 8 * (next + v + 1) = 8 * next + 8 * v + 8 := by omega
        exact ih w4 lf _ e' _ A' c' hR4 hbl (by omega) k4 ho4 (by rw [← el]; omega) (by omega) (by rw [← el]; push_cast; omega) (by rw [List.append_assoc, e88]; exact f1) (by rw [e88]; exact f2)
      obtain ⟨a1, ea1, hc1⟩ := hR1.err_cell
      refine ⟨a1, ea1, _, hc1, ?_⟩
      rw [e8]
      refine cond_eq (fun he => ?_) (fun he => ?_)
      · refine cond_dec (fun hx => ?_) (fun hx => ?_)
        · rw [if_pos hx] at e1 e2
          refine ref01_Reader_Fail_c hR1 fun w2 hR2 k2 => ⟨rfl, ?_⟩
          exact go w2 _ hR2 (k1'.trans k2 (fun _ _ h => h) (fun _ _ h => h)) (own_kp ho1 k2 (fun g hg hp => own_app ho hF g (hR.pt hp) hg)) e1 e2
        · rw [if_neg hx] at e1 e2
          exact go w1 _ hR1 k1' ho1 e1 e2
      · have ef : (if 65527 < 8 * next + 8 * v then failV e 4 else e) = e := by unfold failV; rw [if_neg he]; split <;> rfl
        rw [ef] at e1 e2
        refine condP_f ?_
        exact go w1 _ hR1 k1' ho1 e1 e2
    · rw [readF_err he] at e1 e2
      rw [List.append_nil] at e1
      exact fin w left acc err A c hR hk ho e1 e2
theorem ref16_Read_c {w : World} {b : Nat} {p : Option Addr} {left : List Int} {F : Nat → Prop} {K : Value → World → Prop} (hR : RdV Ty.ref01_Reader w b p left 0 F) (hb : Bytes left) (hl : left.length ≤ 1000000000000000)
    (hK : ∀ B m cb w', m = (readV left).length → w'.ownsRow w.heap.size Ty.int 1 (.slice B m cb) m (nums .i64 (readV left)) → RdV Ty.ref01_Reader w' b p (readT left).2.2 (readT left).2.1 F → Kp (pt p) w w' → K (.slice B m cb) w') : CallsE Pg ref16_Read.N #[.pointer p] w K := by
  refine ref16_Read.ok ?_
  refine ref01_Reader_Upto_c hR hb hl (by decide) fun w1 hR1 k1 => ⟨_, rfl, ?_⟩
  have hu := uVal_range (err := 0) (most := 8192) hb (by decide)
  have hll : (uLeft left 0 8192).length ≤ left.length := uLeft_len
  obtain ⟨n, hn⟩ : ∃ n : Nat, uVal left 0 8192 = n := ⟨_, (Int.toNat_of_nonneg hu.1).symm⟩
  have := ref_read_loop (w0 := w) (n := n) (tot := readT left) (fun i hi => (hR.lt hi).2) (by omega) hK n w1 (uLeft left 0 8192) [] (uErr left 0 8192) 0 none 0 hR1 (uLeft_bytes hb) (by omega) k1 (World.ownsRow_nil _ _ _ _) (by simp) (by decide) (by decide)
    (by unfold readT; rw [hn, Int.toNat_natCast, List.nil_append]; rfl) (by unfold readT; rw [hn, Int.toNat_natCast]; rfl)
  rw [hn, wrap64_in (by omega) (by omega)]
  exact ⟨n + 1, this⟩

end Go.Proofs.YtogmnhdadggnbaaDoor.C
