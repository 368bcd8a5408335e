/-
  Parts of the proofs of this seat: what the functions compute. No condition beyond what each theorem states.
-/
import Derived.Test.YtfigojigigkdmaaF
import Derived.Test.YtfigojigigkdmaaRK
import Derived.Test.YtfigojigigkdmaaB
import Derived.Test.YtfigojigigkdmaaC
set_option linter.unusedVariables false
set_option linter.unusedSimpArgs false
set_option maxRecDepth 100000
namespace Go.Proofs.Ytfigojigigkdmaa.C
open Go Go.RowKit Go.Proofs.Ytfigojigigkdmaa Go.Proofs.Ytfigojigigkdmaa.Sh Go.Proofs.Ytfigojigigkdmaa.F Go.Proofs.Ytfigojigigkdmaa.R

/-! ### addresses at another base -/
theorem own_copy {w : World} {base n c g o sCap : Nat} {bs xs : List Int} {A : Option Addr} {dLen dCap : Nat} {K : Value → World → Prop} (ho : w.ownsRow base Ty.uint8 1 (.slice (some ⟨g, 0, none⟩) n c) n (nums .u8 bs)) (hx : Cs w A (nums .u8 xs)) (hd : xs.length = dLen) (hfit : o + xs.length ≤ n)
    (h : ∀ w', w'.ownsRow base Ty.uint8 1 (.slice (some ⟨g, 0, none⟩) n c) n (nums .u8 (bs.take o ++ xs ++ bs.drop (o + xs.length))) → Kp (· = g) w w' → K (.int .i64 (xs.length : Int)) w') :
    SemJ Pg (Builtin.copy_ #[Ty.sl_uint8, Ty.sl_uint8] Ty.int #[.slice (some ⟨g, o, none⟩) dLen dCap, .slice A xs.length sCap]) K w := by
  have hlen := ho.1
  rcases ho.2 with ⟨h2, _⟩ | ⟨g', cap, cur, h2, hb, hh, h3, h4, h5, h6⟩
  · cases h2
  cases h2
  rw [nums_len] at hlen
  have hs1 : (Pg.info? Ty.uint8).map (·.size) = some 1 := by kernel_rfl
  have hB : Blk w g Ty.uint8 cur.toList := by unfold Blk; simpa using hh
  have hcl : cur.toList.length = c := by simpa using h5
  refine copy_blk bytes_under hs1 hB (cs := nums .u8 xs) (by rw [nums_len, hd]; exact (Nat.min_self _).symm) hx (by rw [nums_len, hcl]; omega) (nums_one _ _) fun w' hB' hk => ?_
  rw [nums_len] at hB' ⊢
  refine h w' ?_ hk
  have hl' : (cur.toList.take o ++ nums .u8 xs ++ cur.toList.drop (o + xs.length)).length = c := by
    simp only [List.length_append, List.length_take, List.length_drop, nums_len]; omega
  have := own_of_blk (base := base) (size := 1) (n := n) (c := c) hB' hb (by rw [hl']; omega) h3 h4
  have e : (cur.toList.take o ++ nums .u8 xs ++ cur.toList.drop (o + xs.length)).take (n * 1) = nums .u8 (bs.take o ++ xs ++ bs.drop (o + xs.length)) := by
    rw [Nat.mul_one] at h6 ⊢
    have hc : cur.toList = nums .u8 bs ++ cur.toList.drop n := by rw [← h6, List.take_append_drop]
    have hnl : (nums .u8 bs).length = n := by rw [nums_len]; omega
    generalize cur.toList.drop n = r at hc
    have e1 : (nums .u8 bs ++ r).take o = (nums .u8 bs).take o := List.take_append_of_le_length (by omega)
    have e2 : (nums .u8 bs ++ r).drop (o + xs.length) = (nums .u8 bs).drop (o + xs.length) ++ r := List.drop_append_of_le_length (by omega)
    rw [hc, e1, e2, nums_take, nums_drop, ← List.append_assoc, nums_app, nums_app]
    exact List.take_left' (by simp only [List.length_append, nums_len, List.length_take, List.length_drop]; omega)
  rw [e] at this
  exact this
def wordAt (bs : List Int) (x : Nat) : Int := getV ((bs.drop x).take 8)
def putAt (bs : List Int) (x : Nat) (v : Int) : List Int := bs.take x ++ putB v 8 ++ bs.drop (x + 8)
def applyL (f t n : Int) : List Int → List Int → Option (List Int)
  | [], bs => some bs
  | x :: l, bs => if wordAt bs x.toNat = 0 then applyL f t n l bs else if wordAt bs x.toNat < f ∨ n ≤ wordAt bs x.toNat - f then none else applyL f t n l (putAt bs x.toNat (wordAt bs x.toNat - f + t))
theorem putAt_len {bs : List Int} {x : Nat} {v : Int} (h : x + 8 ≤ bs.length) : (putAt bs x v).length = bs.length := by
  unfold putAt
  simp only [List.length_append, List.length_take, List.length_drop, putB_len]
  omega
theorem putAt_bytes {bs : List Int} {x : Nat} {v : Int} (h : Bytes bs) : Bytes (putAt bs x v) := fun y hy => by
  unfold putAt at hy
  rcases List.mem_append.1 hy with hy | hy
  · rcases List.mem_append.1 hy with hy | hy
    · exact h.take _ y hy
    · exact putB_bytes _ _ y hy
  · exact h.drop _ y hy
def argBad (f t n : Int) : Bool := !goodV f || (!goodV t || (decide (n < 0) || decide (1048576 < n)))
theorem goodV_range {x : Int} (h : goodV x = true) : 256 ≤ x ∧ x ≤ 1099511627776 := by
  unfold goodV at h
  simp only [Bool.and_eq_true, decide_eq_true_eq] at h
  exact ⟨h.1, h.2.1⟩
theorem apply_loop {w0 : World} {A : Option Addr} {m c : Nat} {l : List Int} {nb base g cb : Nat} {f t n : Int} {res : Option (List Int)} {K : Value → World → Prop} (hx : Cs w0 A (nums .i64 l)) (hm : m = l.length) (hl : m ≤ 8192) (hbase : base = w0.heap.size) (hf : 256 ≤ f ∧ f ≤ 1099511627776) (ht : 256 ≤ t ∧ t ≤ 1099511627776) (hn : 0 ≤ n ∧ n ≤ 1048576) (hnb : nb ≤ 140737488355328)
    (hN : res = none → ∀ w', Below w0.heap.size w0 w' → K (.tuple #[.slice none 0 0, .int .i64 10]) w')
    (hS : ∀ out, res = some out → ∀ w', Below w0.heap.size w0 w' → out.length = nb → Bytes out → w'.ownsRow base Ty.uint8 1 (.slice (some ⟨g, 0, none⟩) nb cb) nb (nums .u8 out) → K (.tuple #[.slice (some ⟨g, 0, none⟩) nb cb, .int .i64 0]) w') :
    ∀ (d k : Nat) (w : World) (bs : List Int) (next : Int), k + d = m → Below w0.heap.size w0 w → w.ownsRow base Ty.uint8 1 (.slice (some ⟨g, 0, none⟩) nb cb) nb (nums .u8 bs) → bs.length = nb → Bytes bs → 0 ≤ next → rightFrom nb next (l.drop k) = true → applyL f t n (l.drop k) bs = res →
    reloc_Apply.l0 K (d + 1) f t n (some ⟨g, 0, none⟩) nb cb 0 A m c m k w := by
  intro d
  induction d with
  | zero =>
    intro k w bs next hk hb ho hbl hby h0 hr he
    rw [reloc_Apply.l0_succ]
    show condP (decide ((k : Int) < _)) _ _
    refine cond_dec (fun h => by omega) (fun _ => ?_)
    rw [List.drop_of_length_le (by omega), applyL] at he
    exact hS bs he.symm w hb hbl hby ho
  | succ d ih =>
    intro k w bs next hk hb ho hbl hby h0 hr he
    rw [reloc_Apply.l0_succ]
    show condP (decide ((k : Int) < _)) _ _
    refine cond_dec (fun _ => ?_) (fun h => absurd h (by omega))
    have hlt : k < l.length := by omega
    have hxk : l[k]? = some l[k] := List.getElem?_eq_getElem hlt
    obtain ⟨a, rfl, c0⟩ := (hx.below hb).at (nums_at hxk)
    rw [List.drop_eq_getElem_cons hlt] at he hr
    rw [rightFrom] at hr
    by_cases hbad : l[k] < next ∨ l[k] % 8 ≠ 0 ∨ imax 0 (nb : Int) - 8 < l[k]
    · rw [if_pos hbad] at hr; cases hr
    rw [if_neg hbad] at hr
    have hmx : imax 0 (nb : Int) = nb := by unfold imax; split <;> omega
    rw [hmx] at hbad
    have hncb : nb ≤ cb := by obtain ⟨_, _, e, h, _⟩ := own_form ho; cases e; exact h
    rw [applyL] at he
    refine ⟨⟨by omega, by omega⟩, a, rfl, l[k], c0, ?_⟩
    obtain ⟨x, hxe⟩ : ∃ x : Nat, l[k] = x := ⟨l[k].toNat, by omega⟩
    rw [hxe] at hbad hr he ⊢
    rw [Int.toNat_natCast] at he
    have e8 : IntKind.wrap .i64 ((x : Int) + 8) = ((x + 8 : Nat) : Int) := by rw [wrap64_in (by omega) (by omega)]; push_cast; rfl
    unfold reloc_Apply.p9
    rw [e8, Int.toNat_natCast, Int.toNat_natCast]
    refine ⟨⟨by omega, by omega⟩, ⟨by omega, by omega⟩, ?_⟩
    have eA : slA (some ⟨g, 0, none⟩) x cb 1 = some ⟨g, x, none⟩ := by
      unfold slA
      rw [if_neg (by omega)]
      simp only [Option.map_some, Nat.mul_one, add_at, Nat.zero_add]
    have e88 : x + 8 - x = 8 := by omega
    rw [eA, e88]
    have hwx : Cs w (some ⟨g, x, none⟩) (nums .u8 ((bs.drop x).take 8)) := by
      have := ((Cs.ofOwn ho).drop x).take 8
      rw [nums_drop, nums_take] at this
      simpa only [Option.map_some, add_at, Nat.zero_add] using this
    have hb8 : Bytes ((bs.drop x).take 8) := (hby.drop x).take 8
    have hl8 : 8 = ((bs.drop x).take 8).length := by rw [List.length_take, List.length_drop]; omega
    refine num_Get_c hwx hl8 hb8 ⟨_, rfl, ?_⟩
    have hu := getV_u64 hb8
    change U64 (wordAt bs x) at hu
    show reloc_Apply.p12 _ K f t n _ nb cb 0 _ 8 _ (wordAt bs x) _ m c m k (wordAt bs x == 0) w
    generalize wordAt bs x = wd at he hu
    have next' : ∀ w' bs', Below w0.heap.size w0 w' → w'.ownsRow base Ty.uint8 1 (.slice (some ⟨g, 0, none⟩) nb cb) nb (nums .u8 bs') → bs'.length = nb → Bytes bs' → applyL f t n (l.drop (k + 1)) bs' = res → reloc_Apply.p13 (reloc_Apply.l0 K (d + 1)) K f t n (some ⟨g, 0, none⟩) nb cb 0 (some a) m c m k w' := fun w' bs' h1 h2 h3 h4 h5 => by
      show reloc_Apply.l0 K (d + 1) f t n _ nb cb 0 (some a) m c m (IntKind.wrap .i64 ((k : Int) + 1)) w'
      rw [cst k (by omega)]
      exact ih (k + 1) w' bs' (x + 8) (by omega) h1 h2 h3 h4 (by omega) hr h5
    have ef : IntKind.wrap .u64 f = f := wrapu64_in (by omega) (by omega)
    have et : IntKind.wrap .u64 t = t := wrapu64_in (by omega) (by omega)
    have en : IntKind.wrap .u64 n = n := wrapu64_in (by omega) (by omega)
    unfold U64 at hu
    refine cond_eq (fun hz => ?_) (fun hz => ?_)
    · rw [if_pos hz] at he
      exact next' w bs hb ho hbl hby he
    · rw [if_neg hz] at he
      have bad : (wd < f ∨ n ≤ wd - f) → reloc_Apply.p14 (reloc_Apply.l0 K (d + 1)) K f t n (some ⟨g, 0, none⟩) nb cb 0 (some ⟨g, x, none⟩) 8 (cb - x) wd (some a) m c m k true w := fun h => by
        rw [if_pos h] at he
        exact hN he.symm w hb
      rw [ef, en]
      refine cond_dec (fun h => bad (.inl h)) (fun h => ?_)
      have ewf : IntKind.wrap .u64 (wd - f) = wd - f := wrapu64_in (by omega) (by omega)
      rw [ewf]
      by_cases h2 : n ≤ wd - f
      · rw [decide_eq_true h2]; exact bad (.inr h2)
      rw [decide_eq_false h2]
      rw [if_neg (by omega)] at he
      refine condP_f ?_
      unfold reloc_Apply.p16
      rw [ef, et, ewf, wrapu64_in (x := wd - f + t) (by omega) (by omega)]
      refine num_Put_c ⟨by omega, by omega⟩ fun A3 c3 w3 o3 b3 => ⟨_, _, _, rfl, ?_⟩
      have hb3 := hb.trans (b3.mono hb.size)
      have h88 : widthV 8 = 8 := by decide
      rw [h88] at o3 ⊢
      have ho3 := own_below_kp ho b3
      have := own_copy (xs := putB (wd - f + t) 8) (o := x) (dLen := 8) (dCap := cb - x) (sCap := c3) ho3 (Cs.ofOwn o3) (putB_len _ _) (by rw [putB_len]; omega) (K := fun v23 w24 => ∃ (n25 : Int), v23 = .int .i64 n25 ∧ reloc_Apply.p13 (reloc_Apply.l0 K (d + 1)) K f t n (some ⟨g, 0, none⟩) nb cb 0 (some a) m c m k w24) fun w4 ho4 hk4 => ⟨_, rfl, ?_⟩
      · rw [putB_len] at this; exact this
      · rw [putB_len] at ho4
        exact next' w4 (putAt bs x (wd - f + t)) (hb3.trans (hk4.below hb3.size fun i hi e => by have := (own_lt ho rfl).1; simp at this; omega)) ho4 (by rw [putAt_len (by omega)]; exact hbl) (putAt_bytes hby) he
def applyV (bs l : List Int) (f t n : Int) : Int × List Int := if argBad f t n = true then (2, []) else if rightV l bs.length = false then (4, []) else match applyL f t n l bs with | none => (10, []) | some c => (0, c)
theorem applyL_keeps {f t n : Int} : ∀ (l bs out : List Int) (next : Int), 0 ≤ next → Bytes bs → rightFrom bs.length next l = true → applyL f t n l bs = some out → Bytes out ∧ out.length = bs.length
  | [], bs, out, _, _, hb, _, h => by
    rw [applyL] at h
    cases h
    exact ⟨hb, rfl⟩
  | x :: l, bs, out, next, h0, hb, hr, h => by
    rw [rightFrom] at hr
    by_cases hbad : x < next ∨ x % 8 ≠ 0 ∨ imax 0 (bs.length : Int) - 8 < x
    · rw [if_pos hbad] at hr; cases hr
    rw [if_neg hbad] at hr
    have hmx : imax 0 (bs.length : Int) = bs.length := by unfold imax; split <;> omega
    rw [hmx] at hbad
    rw [applyL] at h
    split at h
    · exact applyL_keeps l bs out (x + 8) (by omega) hb hr h
    · split at h
      · cases h
      · have hl := putAt_len (bs := bs) (x := x.toNat) (v := wordAt bs x.toNat - f + t) (by omega)
        have := applyL_keeps l _ out (x + 8) (by omega) (putAt_bytes hb) (by rw [hl]; exact hr) h
        rw [hl] at this
        exact this
theorem applyV_keeps {bs l : List Int} {f t n : Int} (hb : Bytes bs) : Bytes (applyV bs l f t n).2 ∧ (applyV bs l f t n).2.length ≤ bs.length := by
  unfold applyV
  have nil : Bytes [] := fun x hx => by cases hx
  by_cases h1 : argBad f t n = true
  · rw [if_pos h1]; exact ⟨nil, by simp⟩
  rw [if_neg h1]
  cases h2 : rightV l bs.length with
  | false => rw [if_pos rfl]; exact ⟨nil, by simp⟩
  | true =>
    rw [if_neg (by decide)]
    cases h3 : applyL f t n l bs with
    | none => exact ⟨nil, by simp⟩
    | some out =>
      unfold rightV at h2
      by_cases hl : 8192 < l.length
      · rw [if_pos hl] at h2; cases h2
      rw [if_neg hl] at h2
      have := applyL_keeps l bs out 0 (by decide) hb h2 h3
      exact ⟨this.1, by simp only; omega⟩
theorem reloc_Apply_c {w : World} {A B : Option Addr} {nb cb m cm : Nat} {bs l : List Int} {f t n : Int} {K : Value → World → Prop} (hx : Cs w A (nums .u8 bs)) (hnb : nb = bs.length) (hl : nb ≤ 140737488351232) (hb : Bytes bs) (hy : Cs w B (nums .i64 l)) (hm : m = l.length) (hi : ∀ x ∈ l, I64 x)
    (hK : ∀ A' c' w', w'.ownsRow w.heap.size Ty.uint8 1 (.slice A' (applyV bs l f t n).2.length c') (applyV bs l f t n).2.length (nums .u8 (applyV bs l f t n).2) → Below w.heap.size w w' → K (.tuple #[.slice A' (applyV bs l f t n).2.length c', .int .i64 (applyV bs l f t n).1]) w') :
    CallsE Pg reloc_Apply.N #[.slice A nb cb, .slice B m cm, .int .i64 f, .int .i64 t, .int .i64 n] w K := by
  have bad : argBad f t n = true → reloc_Apply.p1 K A nb cb B m cm f t n true w := fun h => by
    unfold applyV at hK
    rw [if_pos h] at hK
    exact hK none 0 w (World.ownsRow_nil _ _ _ _) (Below.refl _ _)
  refine reloc_Apply.ok (arena_Good_c ⟨_, rfl, ?_⟩)
  cases g1 : goodV f with
  | false => exact bad (by unfold argBad; rw [g1]; rfl)
  | true =>
  refine condP_nt (arena_Good_c ⟨_, rfl, ?_⟩)
  cases g2 : goodV t with
  | false => exact bad (by unfold argBad; rw [g1, g2]; rfl)
  | true =>
  refine condP_nt (cond_dec (fun g3 => bad (by unfold argBad; rw [g1, g2, decide_eq_true g3]; rfl)) (fun g3 => ?_))
  by_cases g4 : 1048576 < n
  · rw [decide_eq_true g4]; exact bad (by unfold argBad; rw [g1, g2, decide_eq_true g4, decide_eq_false g3]; rfl)
  rw [decide_eq_false g4]
  have hnbad : ¬ argBad f t n = true := by unfold argBad; rw [g1, g2, decide_eq_false g3, decide_eq_false g4]; decide
  have hf := goodV_range g1
  have ht := goodV_range g2
  unfold applyV at hK
  rw [if_neg hnbad] at hK
  refine condP_f (reloc_Right_c hy hm ⟨by omega, by omega⟩ hi ⟨_, rfl, ?_⟩)
  rw [hnb]
  cases h2 : rightV l bs.length with
  | false =>
    rw [h2, if_pos rfl] at hK
    exact hK none 0 w (World.ownsRow_nil _ _ _ _) (Below.refl _ _)
  | true =>
    rw [h2, if_neg (by decide)] at hK
    unfold rightV at h2
    by_cases hl8 : 8192 < l.length
    · rw [if_pos hl8] at h2; cases h2
    rw [if_neg hl8] at h2
    refine condP_nt (wlet_intro fun w1 h1 => ?_)
    have hal : Below w.heap.size w w1 := by rw [h1]; exact (Below.refl _ _).alloc (Nat.le_refl _) _
    have hnew : w1.ownsRow w.heap.size Ty.uint8 1 (.slice (some ⟨w.heap.size, 0, none⟩) 0 0) 0 (nums .u8 []) := by rw [h1]; exact own_new (Nat.le_refl _) (Nat.zero_le _) rfl
    clear h1
    refine app_bytes hnew rfl (hx.below hal) (by omega) hal.size fun A' c' w2 ho2 hm2 => ⟨_, _, _, rfl, ?_⟩
    rw [Nat.zero_add, List.nil_append] at ho2
    rw [Nat.zero_add]
    have b2 : Below w.heap.size w w2 := hal.trans (hm2.kp.below hal.size fun i hi e => by cases e; exact absurd hi (Nat.lt_irrefl _))
    obtain ⟨A2, c2, e2, hnc, hform⟩ := own_form ho2
    cases e2
    rcases hform with ⟨rfl, hz, rfl, _⟩ | ⟨g, cur, rfl, hg, _⟩
    · have hl0 : l = [] := by
        cases l with
        | nil => rfl
        | cons x l =>
          rw [rightFrom, if_pos] at h2
          · cases h2
          · rw [hz]
            by_cases hx0 : x < 0
            · exact .inl hx0
            · exact .inr (.inr (by unfold imax; simp; omega))
      subst hl0
      have hm0 : m = 0 := by simpa using hm
      subst hm0
      refine ⟨1, ?_⟩
      rw [reloc_Apply.l0_succ]
      refine condP_f ?_
      rw [applyL] at hK
      simp only [hz] at hK ho2 ⊢
      exact hK none 0 w2 ho2 b2
    · refine ⟨m + 1, ?_⟩
      refine apply_loop (w0 := w) (res := applyL f t n l bs) hy hm (by omega) rfl hf ht (by omega) (by omega) (fun hr w' hb' => ?_) (fun out hr w' hb' hol hob ho' => ?_) m 0 w2 bs 0 (by omega) b2 ho2 rfl hb (by decide) h2 rfl
      · rw [hr] at hK
        exact hK none 0 w' (World.ownsRow_nil _ _ _ _) hb'
      · rw [hr] at hK
        simp only at hK
        have := hK (some ⟨g, 0, none⟩) _ w' (by rw [hol]; exact ho') hb'
        rw [hol] at this
        exact this
theorem law16_alive_c {K : Value → World → Prop} {w : World} (h : ∀ w', Below w.heap.size w w' → K (.bool true) w') : CallsE Pg law16_alive.N #[] w K := by
  refine law16_alive.ok (wlet_intro fun w1 h1 => ?_)
  have hal1 : Below w.heap.size w w1 := by rw [h1]; exact (Below.refl _ _).alloc (Nat.le_refl _) _
  have hz1 : Blk w1 w.heap.size Ty.int (nums .i64 [0, 8, 24]) := by rw [h1]; exact Blk.new w Ty.int _
  clear h1
  have hi3 : ∀ x ∈ [(0 : Int), 8, 24], I64 x := fun x hx => by unfold I64; simp at hx; omega
  have hi1 : ∀ x ∈ [(0 : Int)], I64 x := fun x hx => by unfold I64; simp at hx; omega
  refine reloc_Bytes_c (Cs.of_blk0 hz1) rfl (by decide) hi3 (fun hn => absurd hn (by decide)) fun _ A2 c2 w2 o2 b2 => ⟨_, _, _, _, rfl, ?_⟩
  have b2' := hal1.trans (b2.mono hal1.size)
  refine num_Put_c ⟨by decide, by decide⟩ fun A3 c3 w3 o3 b3 => ⟨_, _, _, rfl, wlet_intro fun w4 h4 => ?_⟩
  have b3' := b2'.trans (b3.mono b2'.size)
  have hal4 : Below w3.heap.size w3 w4 := by rw [h4]; exact (Below.refl _ _).alloc (Nat.le_refl _) _
  have hz4 : Blk w4 w3.heap.size Ty.int (nums .i64 [0]) := by rw [h4]; exact Blk.new w3 Ty.int _
  clear h4
  have b4 := b3'.trans (hal4.mono b3'.size)
  refine reloc_Apply_c (bs := putB 300 (widthV 8)) (l := [0]) (Cs.ofOwn (own_below_kp o3 hal4)) (putB_len _ _).symm (by decide) (putB_bytes _ _) (Cs.of_blk0 hz4) rfl hi1 fun A5 c5 w5 o5 b5 => ⟨_, _, _, _, rfl, ?_⟩
  have b5' := b4.trans (b5.mono b4.size)
  refine cond_eq (fun _ => ?_) (fun h => absurd rfl h)
  have b25 : Below w2.heap.size w2 w5 := b3.trans ((hal4.trans (b5.mono hal4.size)).mono b3.size)
  have hby : Bytes (tabB [0, 8, 24]) := fun x hx => by
    have e : tabB [0, 8, 24] = [3, 0, 0, 1] := by decide
    rw [e] at hx
    simp at hx; omega
  have hb := bytes_u8 (Cs.ofOwn (own_below_kp o2 b25)) hby
  have e : ((tabB [0, 8, 24]).map fun x => UInt8.ofNat x.toNat) = [3, 0, 0, 1] := by decide
  rw [e] at hb
  refine ⟨_, hb, ?_⟩
  rw [beq_self_eq_true]
  refine condP_t (wlet_intro fun w6 h6 => ?_)
  have hal6 : Below w5.heap.size w5 w6 := by rw [h6]; exact (Below.refl _ _).alloc (Nat.le_refl _) _
  have hz6 : Blk w6 w5.heap.size Ty.int (nums .i64 [0, 8, 24]) := by rw [h6]; exact Blk.new w5 Ty.int _
  clear h6
  have b6 := b5'.trans (hal6.mono b5'.size)
  refine reloc_Right_c (l := [0, 8, 24]) (Cs.of_blk0 hz6) rfl ⟨by decide, by decide⟩ hi3 ⟨_, rfl, ?_⟩
  have r1 : rightV [0, 8, 24] 31 = false := by decide
  have r2 : rightV [0, 8, 24] 32 = true := by decide
  rw [r1]
  refine condP_t (wlet_intro fun w7 h7 => ?_)
  have hal7 : Below w6.heap.size w6 w7 := by rw [h7]; exact (Below.refl _ _).alloc (Nat.le_refl _) _
  have hz7 : Blk w7 w6.heap.size Ty.int (nums .i64 [0, 8, 24]) := by rw [h7]; exact Blk.new w6 Ty.int _
  clear h7
  have b7 := b6.trans (hal7.mono b6.size)
  refine reloc_Right_c (l := [0, 8, 24]) (Cs.of_blk0 hz7) rfl ⟨by decide, by decide⟩ hi3 ⟨_, rfl, ?_⟩
  rw [r2]
  refine condP_t (cond_eq (fun _ => ?_) (fun h => absurd (by decide) h))
  have b57 : Below w5.heap.size w5 w7 := hal6.trans (hal7.mono hal6.size)
  refine num_Get_c (Cs.ofOwn (own_below_kp o5 b57)) rfl (applyV_keeps (putB_bytes _ _)).1 ⟨_, rfl, ?_⟩
  have e : (getV (applyV (putB 300 (widthV 8)) [0] 256 512 256).2 == (556 : Int)) = true := by decide
  show K (.bool _) w7
  rw [e]
  exact h w7 b7
/-! ### bytes and words -/
theorem putAt_at {bs : List Int} {x : Nat} {v : Int} (h : x + 8 ≤ bs.length) (i : Nat) : (putAt bs x v)[i]? = if x ≤ i ∧ i < x + 8 then some (v / ((256 ^ (i - x) : Nat) : Int) % 256) else bs[i]? := by
  unfold putAt
  have hl : (bs.take x).length = x := by rw [List.length_take]; omega
  by_cases h1 : i < x
  · rw [if_neg (by omega), List.append_assoc, List.getElem?_append_left (by omega), List.getElem?_take, if_pos h1]
  · by_cases h2 : i < x + 8
    · rw [if_pos ⟨by omega, h2⟩, List.append_assoc, List.getElem?_append_right (by omega), hl, List.getElem?_append_left (by rw [putB_len]; omega), putB_at (by omega)]
    · rw [if_neg (by omega), List.getElem?_append_right (by rw [List.length_append, putB_len]; omega), List.length_append, putB_len, hl, List.getElem?_drop]
      congr 1
      omega
theorem window_eq {a b : List Int} {x : Nat} (h : ∀ i, x ≤ i → i < x + 8 → a[i]? = b[i]?) : (a.drop x).take 8 = (b.drop x).take 8 := by
  apply List.ext_getElem?
  intro i
  rw [List.getElem?_take, List.getElem?_take]
  split
  · rw [List.getElem?_drop, List.getElem?_drop]
    exact h _ (by omega) (by omega)
  · rfl
theorem wordAt_apart {bs : List Int} {x y : Nat} {v : Int} (h : x + 8 ≤ bs.length) (ha : x + 8 ≤ y ∨ y + 8 ≤ x) : wordAt (putAt bs x v) y = wordAt bs y := by
  unfold wordAt
  rw [window_eq (b := bs) fun i h1 h2 => by rw [putAt_at h, if_neg (by omega)]]
theorem wordAt_same {bs : List Int} {x : Nat} {v : Int} (h : x + 8 ≤ bs.length) (hv : U64 v) : wordAt (putAt bs x v) x = v := by
  unfold wordAt
  have : ((putAt bs x v).drop x).take 8 = putB v 8 := by
    unfold putAt
    have hl : (bs.take x).length = x := by rw [List.length_take]; omega
    rw [List.append_assoc, List.drop_left' hl, List.take_left' (putB_len _ _)]
  rw [this]
  exact getV_put8 hv
theorem putAt_apart {bs : List Int} {x y : Nat} {u v : Int} (hx : x + 8 ≤ bs.length) (hy : y + 8 ≤ bs.length) (ha : x + 8 ≤ y ∨ y + 8 ≤ x) : putAt (putAt bs x u) y v = putAt (putAt bs y v) x u := by
  apply List.ext_getElem?
  intro i
  rw [putAt_at (by rw [putAt_len hx]; exact hy), putAt_at hx, putAt_at (by rw [putAt_len hy]; exact hx), putAt_at hy]
  (repeat' split) <;> first | rfl | omega
theorem putAt_twice {bs : List Int} {x : Nat} {u v : Int} (hx : x + 8 ≤ bs.length) : putAt (putAt bs x u) x v = putAt bs x v := by
  apply List.ext_getElem?
  intro i
  rw [putAt_at (by rw [putAt_len hx]; exact hx), putAt_at hx, putAt_at hx]
  split <;> rfl
theorem getB_digit : ∀ {l : List Int} {j : Nat} {b : Int}, Bytes l → l[j]? = some b → getB l / ((256 ^ j : Nat) : Int) % 256 = b
  | [], j, b, _, h => by simp at h
  | x :: l, 0, b, hb, h => by
    have hx := hb x (by simp)
    simp at h
    subst h
    unfold getB
    simp
    omega
  | x :: l, j + 1, b, hb, h => by
    have hx := hb x (by simp)
    have ih := getB_digit (l := l) (j := j) (b := b) (fun y hy => hb y (List.mem_cons_of_mem _ hy)) (by simpa using h)
    unfold getB
    have e : (x + 256 * getB l) / ((256 ^ (j + 1) : Nat) : Int) = getB l / ((256 ^ j : Nat) : Int) := by
      have ep : ((256 ^ (j + 1) : Nat) : Int) = 256 * ((256 ^ j : Nat) : Int) := by rw [Nat.pow_succ]; push_cast; omega
      rw [ep, ← Int.ediv_ediv_of_nonneg (by omega)]
      congr 1
      omega
    rw [e]
    exact ih
theorem putAt_word {bs : List Int} {x : Nat} (h : x + 8 ≤ bs.length) (hb : Bytes bs) : putAt bs x (wordAt bs x) = bs := by
  apply List.ext_getElem?
  intro i
  rw [putAt_at h]
  by_cases hi : x ≤ i ∧ i < x + 8
  · rw [if_pos hi]
    have hil : bs[i]? = some bs[i] := List.getElem?_eq_getElem (by omega)
    have hw : ((bs.drop x).take 8)[i - x]? = some bs[i] := by
      rw [List.getElem?_take, if_pos (by omega), List.getElem?_drop]
      have : x + (i - x) = i := by omega
      rw [this, hil]
    have e : wordAt bs x = getB ((bs.drop x).take 8) := by
      unfold wordAt getV
      rw [List.take_of_length_le (by rw [List.length_take]; omega)]
    rw [e, getB_digit ((hb.drop x).take 8) hw, hil]
  · rw [if_neg hi]
/-- The places behind. -/
theorem right_cons {nb : Nat} {next x : Int} {l : List Int} (h0 : 0 ≤ next) (h : rightFrom nb next (x :: l) = true) : next ≤ x ∧ x % 8 = 0 ∧ x + 8 ≤ nb ∧ rightFrom nb (x + 8) l = true := by
  rw [rightFrom] at h
  by_cases hbad : x < next ∨ x % 8 ≠ 0 ∨ imax 0 (nb : Int) - 8 < x
  · rw [if_pos hbad] at h; cases h
  rw [if_neg hbad] at h
  have hmx : imax 0 (nb : Int) = nb := by unfold imax; split <;> omega
  rw [hmx] at hbad
  exact ⟨by omega, by omega, by omega, h⟩
theorem applyL_put {f t n v : Int} {x : Nat} : ∀ (l bs : List Int) (next : Int), 0 ≤ next → (x : Int) + 8 ≤ next → x + 8 ≤ bs.length → rightFrom bs.length next l = true → applyL f t n l (putAt bs x v) = (applyL f t n l bs).map (putAt · x v)
  | [], bs, next, _, _, _, _ => rfl
  | y :: l, bs, next, h0, hx, hl, hr => by
    obtain ⟨h1, h2, h3, h4⟩ := right_cons h0 hr
    have hw : wordAt (putAt bs x v) y.toNat = wordAt bs y.toNat := wordAt_apart hl (by omega)
    rw [applyL, applyL, hw]
    split
    · exact applyL_put l bs (y + 8) (by omega) (by omega) hl h4
    · split
      · rfl
      · rw [putAt_apart (bs := bs) (x := x) (y := y.toNat) hl (by omega) (by omega)]
        have e := putAt_len (bs := bs) (x := y.toNat) (v := wordAt bs y.toNat - f + t) (by omega)
        exact applyL_put l _ (y + 8) (by omega) (by omega) (by rw [e]; exact hl) (by rw [e]; exact h4)
theorem applyL_word {f t n : Int} {x : Nat} : ∀ (l bs c : List Int) (next : Int), 0 ≤ next → (x : Int) + 8 ≤ next → rightFrom bs.length next l = true → applyL f t n l bs = some c → wordAt c x = wordAt bs x ∧ c.length = bs.length
  | [], bs, c, next, _, _, _, h => by rw [applyL] at h; cases h; exact ⟨rfl, rfl⟩
  | y :: l, bs, c, next, h0, hx, hr, h => by
    obtain ⟨h1, h2, h3, h4⟩ := right_cons h0 hr
    rw [applyL] at h
    split at h
    · exact applyL_word (x := x) l bs c (y + 8) (by omega) (by omega) h4 h
    · split at h
      · cases h
      · have e := putAt_len (bs := bs) (x := y.toNat) (v := wordAt bs y.toNat - f + t) (by omega)
        have := applyL_word (x := x) l (putAt bs y.toNat (wordAt bs y.toNat - f + t)) c (y + 8) (by omega) (by omega) (by rw [e]; exact h4) h
        rw [wordAt_apart (bs := bs) (x := y.toNat) (y := x) (by omega) (by omega), e] at this
        exact this
theorem wordAt_u64 {bs : List Int} (h : Bytes bs) (x : Nat) : U64 (wordAt bs x) := getV_u64 ((h.drop x).take 8)
/-- There, and from there on. -/
theorem applyL_on {p q s n : Int} (hp : 256 ≤ p) (hq : 256 ≤ q ∧ q ≤ 1099511627776) (hn : n ≤ 1048576) : ∀ (l bs c : List Int) (next : Int), 0 ≤ next → Bytes bs → rightFrom bs.length next l = true → applyL p q n l bs = some c → applyL q s n l c = applyL p s n l bs
  | [], bs, c, next, _, _, _, h => by
    rw [applyL] at h
    cases h
    rfl
  | x :: l, bs, c, next, h0, hb, hr, h => by
    obtain ⟨h1, h2, h3, h4⟩ := right_cons h0 hr
    have hx8 : x.toNat + 8 ≤ bs.length := by omega
    rw [applyL] at h
    rw [applyL, applyL]
    by_cases hz : wordAt bs x.toNat = 0
    · rw [if_pos hz] at h
      have hw := applyL_word (x := x.toNat) l bs c (x + 8) (by omega) (by omega) h4 h
      rw [hw.1, if_pos hz, if_pos hz]
      exact applyL_on hp hq hn l bs c (x + 8) (by omega) hb h4 h
    · rw [if_neg hz] at h
      by_cases hbad : wordAt bs x.toNat < p ∨ n ≤ wordAt bs x.toNat - p
      · rw [if_pos hbad] at h; cases h
      rw [if_neg hbad] at h
      have hu := wordAt_u64 hb x.toNat
      have e := putAt_len (bs := bs) (x := x.toNat) (v := wordAt bs x.toNat - p + q) hx8
      have hw := applyL_word (x := x.toNat) l _ c (x + 8) (by omega) (by omega) (by rw [e]; exact h4) h
      rw [wordAt_same hx8 ⟨by omega, by omega⟩, e] at hw
      have ih := applyL_on (s := s) hp hq hn l _ c (x + 8) (by omega) (putAt_bytes hb) (by rw [e]; exact h4) h
      rw [hw.1, if_neg (by omega), if_neg (by omega), if_neg hz, if_neg hbad]
      have e2 : wordAt bs x.toNat - p + q - q + s = wordAt bs x.toNat - p + s := by omega
      rw [e2, applyL_put l c (x + 8) (by omega) (by omega) (by rw [hw.2]; exact hx8) (by rw [hw.2]; exact h4), ih, ← applyL_put l _ (x + 8) (by omega) (by omega) (by rw [e]; exact hx8) (by rw [e]; exact h4), putAt_twice hx8]
theorem applyL_id {p q n : Int} : ∀ (l bs c : List Int) (next : Int), 0 ≤ next → Bytes bs → rightFrom bs.length next l = true → applyL p q n l bs = some c → applyL p p n l bs = some bs
  | [], bs, c, next, _, _, _, h => rfl
  | x :: l, bs, c, next, h0, hb, hr, h => by
    obtain ⟨h1, h2, h3, h4⟩ := right_cons h0 hr
    have hx8 : x.toNat + 8 ≤ bs.length := by omega
    rw [applyL] at h
    rw [applyL]
    by_cases hz : wordAt bs x.toNat = 0
    · rw [if_pos hz] at h ⊢
      exact applyL_id l bs c (x + 8) (by omega) hb h4 h
    · rw [if_neg hz] at h ⊢
      by_cases hbad : wordAt bs x.toNat < p ∨ n ≤ wordAt bs x.toNat - p
      · rw [if_pos hbad] at h; cases h
      rw [if_neg hbad] at h ⊢
      have e2 : wordAt bs x.toNat - p + p = wordAt bs x.toNat := by omega
      rw [e2, putAt_word hx8 hb]
      rw [applyL_put l bs (x + 8) (by omega) (by omega) hx8 h4] at h
      obtain ⟨c', hc', _⟩ := Option.map_eq_some_iff.1 h
      exact applyL_id l bs c' (x + 8) (by omega) hb h4 hc'
/-! ### the document's: byte by byte -/
theorem own_set1 {w : World} {base n c : Nat} {e : TypeId} {a : Addr} {cs : List Value} {k : Nat} {v : Value} {Q : World → Prop} (h : w.ownsRow base e 1 (.slice (some a) n c) n cs) (hk : k < cs.length)
    (hQ : ∀ w', w'.ownsRow base e 1 (.slice (some a) n c) n (cs.set k v) → Kp (· = a.block) w w' → w'.heap.size = w.heap.size → Q w') : canStore w (a.add k) ∧ wlet (w.setCell (a.add k) v) Q := by
  have hf : ∀ l : List Value, l.flatMap (fun x => [x]) = l := fun l => by induction l with | nil => rfl | cons x l ih => rw [List.flatMap_cons, ih]; rfl
  have := own_stores (m := 1) (f := fun x : Value => [x]) (l := cs) (k := k) (i := 0) (x := cs[k]) (y := v) (vs := [v]) (Q := Q) (by rw [hf]; exact h) (fun _ => rfl) (List.getElem?_eq_getElem hk) (Nat.le_refl 1) rfl (by rw [hf]; exact hQ)
  rw [Nat.mul_one] at this
  exact this
theorem nums_set (k : IntKind) (xs : List Int) (i : Nat) (y : Int) : (nums k xs).set i (.int k y) = nums k (xs.set i y) := by simp [nums, List.map_set]
def putN (bs ps : List Int) (x j : Nat) : List Int := bs.take x ++ ps.take j ++ bs.drop (x + j)
theorem putN_len {bs ps : List Int} {x j : Nat} (h : x + j ≤ bs.length) (hj : j ≤ ps.length) : (putN bs ps x j).length = bs.length := by
  unfold putN
  simp only [List.length_append, List.length_take, List.length_drop]
  omega
theorem putN_set {bs ps : List Int} {x j : Nat} {v : Int} (h : x + j < bs.length) (hv : ps[j]? = some v) : (putN bs ps x j).set (x + j) v = putN bs ps x (j + 1) := by
  have hj := (List.getElem?_eq_some_iff.1 hv).1
  unfold putN
  have hl : (bs.take x ++ ps.take j).length = x + j := by simp only [List.length_append, List.length_take]; omega
  rw [List.set_append_right _ _ (by omega), hl, Nat.sub_self, List.drop_eq_getElem_cons h, List.set_cons_zero, take_snoc hv]
  simp [List.append_assoc, Nat.add_assoc]
theorem rput_loop {L0 : Option Addr → Nat → Nat → Int → Int → Int → Option Addr → Nat → Nat → Option Addr → Nat → Nat → Int → Int → World → Prop} {w0 : World} {A B D : Option Addr} {na ca m cm nd cd nb cb g base x : Nat} {f t n : Int} {k : Nat} {bs ps : List Int} {K : Value → World → Prop}
    (hx : Cs w0 D (nums .u8 ps)) (hnd : nd = ps.length) (hp : nd ≤ 8) (hxb : x + nd ≤ nb) (hnb : nb ≤ 140737488355328) (hbl : bs.length = nb) (hg : ∀ a, D = some a → a.block ≠ g)
    (hK : ∀ w', Kp (· = g) w0 w' → w'.ownsRow base Ty.uint8 1 (.slice (some ⟨g, 0, none⟩) nb cb) nb (nums .u8 (putN bs ps x nd)) → ref16_Apply.p10 L0 K A na ca f t n (some ⟨g, 0, none⟩) nb cb B m cm m k w') :
    ∀ (d j : Nat) (w : World), j + d = nd → Kp (· = g) w0 w → w.ownsRow base Ty.uint8 1 (.slice (some ⟨g, 0, none⟩) nb cb) nb (nums .u8 (putN bs ps x j)) →
    ref16_Apply.l1 L0 K (d + 1) A na ca f t n (some ⟨g, 0, none⟩) nb cb x B m cm m k D nd cd nd j w := by
  intro d
  induction d with
  | zero =>
    intro j w hj hk ho
    obtain rfl : j = nd := by omega
    rw [ref16_Apply.l1_succ]
    exact cond_dec (fun h => by omega) (fun _ => hK w hk ho)
  | succ d ih =>
    intro j w hj hk ho
    rw [ref16_Apply.l1_succ]
    refine cond_dec (fun _ => ?_) (fun h => absurd h (by omega))
    have hxj : ps[j]? = some ps[j] := List.getElem?_eq_getElem (by omega)
    obtain ⟨a, rfl, c0⟩ := (hx.kp hk (fun a e => hg a e)).at (nums_at hxj)
    have e : IntKind.wrap .i64 ((x : Int) + (j : Int)) = ((x + j : Nat) : Int) := by rw [wrap64_in (by omega) (by omega)]; push_cast; rfl
    rw [e]
    refine ⟨⟨by omega, by omega⟩, a, rfl, _, c0, ⟨by omega, by omega⟩, _, rfl, ?_⟩
    refine own_set1 (k := x + j) ho (by rw [nums_len, putN_len (by omega) (by omega)]; omega) fun w' ho' hk' _ => ?_
    rw [nums_set, putN_set (by omega) hxj] at ho'
    rw [cst j (by omega)]
    exact ih (j + 1) w' (by omega) (hk.trans hk' (fun _ _ h => h) (fun _ _ h => h)) ho'
theorem putN_8 {bs : List Int} {x : Nat} {v : Int} : putN bs (putB v 8) x 8 = putAt bs x v := by
  unfold putN putAt
  rw [List.take_of_length_le (l := putB v 8) (by rw [putB_len]; exact Nat.le_refl _)]
theorem putN_0 {bs ps : List Int} {x : Nat} : putN bs ps x 0 = bs := by
  unfold putN
  rw [List.take_zero, List.append_nil, Nat.add_zero, List.take_append_drop]
theorem rapply_loop {w0 : World} {A B : Option Addr} {m c ca : Nat} {l bs0 : List Int} {nb base g cb : Nat} {f t n : Int} {res : Option (List Int)} {K : Value → World → Prop} (hA : Cs w0 A (nums .u8 bs0)) (hA0 : bs0.length = nb) (hca : nb ≤ ca) (hby0 : Bytes bs0) (hx : Cs w0 B (nums .i64 l)) (hm : m = l.length) (hl : m ≤ 8192) (hbase : base = w0.heap.size) (hf : 256 ≤ f ∧ f ≤ 1099511627776) (ht : 256 ≤ t ∧ t ≤ 1099511627776) (hn : 0 ≤ n ∧ n ≤ 1048576) (hnb : nb ≤ 140737488355328)
    (hN : res = none → ∀ w', Below w0.heap.size w0 w' → K (.tuple #[.slice none 0 0, .int .i64 10]) w')
    (hS : ∀ out, res = some out → ∀ w', Below w0.heap.size w0 w' → out.length = nb → Bytes out → w'.ownsRow base Ty.uint8 1 (.slice (some ⟨g, 0, none⟩) nb cb) nb (nums .u8 out) → K (.tuple #[.slice (some ⟨g, 0, none⟩) nb cb, .int .i64 0]) w') :
    ∀ (d k : Nat) (w : World) (bs : List Int) (next : Int), k + d = m → Below w0.heap.size w0 w → w.ownsRow base Ty.uint8 1 (.slice (some ⟨g, 0, none⟩) nb cb) nb (nums .u8 bs) → bs.length = nb → Bytes bs → (∀ i : Nat, next ≤ (i : Int) → bs[i]? = bs0[i]?) → 0 ≤ next → rightFrom nb next (l.drop k) = true → applyL f t n (l.drop k) bs = res →
    ref16_Apply.l0 K (d + 1) A nb ca f t n (some ⟨g, 0, none⟩) nb cb B m c m k w := by
  intro d
  induction d with
  | zero =>
    intro k w bs next hk hb ho hbl hby hag h0 hr he
    rw [ref16_Apply.l0_succ]
    show condP (decide ((k : Int) < _)) _ _
    refine cond_dec (fun h => by omega) (fun _ => ?_)
    rw [List.drop_of_length_le (by omega), applyL] at he
    exact hS bs he.symm w hb hbl hby ho
  | succ d ih =>
    intro k w bs next hk hb ho hbl hby hag h0 hr he
    rw [ref16_Apply.l0_succ]
    show condP (decide ((k : Int) < _)) _ _
    refine cond_dec (fun _ => ?_) (fun h => absurd h (by omega))
    have hlt : k < l.length := by omega
    have hxk : l[k]? = some l[k] := List.getElem?_eq_getElem hlt
    obtain ⟨a, rfl, c0⟩ := (hx.below hb).at (nums_at hxk)
    rw [List.drop_eq_getElem_cons hlt] at he hr
    obtain ⟨h1, h2, h3, h4⟩ := right_cons h0 hr
    rw [applyL] at he
    refine ⟨⟨by omega, by omega⟩, a, rfl, l[k], c0, ?_⟩
    obtain ⟨x, hxe⟩ : ∃ x : Nat, l[k] = x := ⟨l[k].toNat, by omega⟩
    rw [hxe] at h1 h2 h3 h4 he ⊢
    rw [Int.toNat_natCast] at he
    have e8 : IntKind.wrap .i64 ((x : Int) + 8) = ((x + 8 : Nat) : Int) := by rw [wrap64_in (by omega) (by omega)]; push_cast; rfl
    unfold ref16_Apply.p8
    rw [e8, Int.toNat_natCast, Int.toNat_natCast]
    refine ⟨⟨by omega, by omega⟩, ⟨by omega, by omega⟩, ?_⟩
    have e88 : x + 8 - x = 8 := by omega
    rw [e88]
    have hA1 : Cs w (slA A x ca 1) (nums .u8 ((bs0.drop x).take 8)) := by
      have := (slA_cs (k := x) (c := ca) (hA.below hb) (by rw [nums_len]; omega) (by rw [nums_len]; omega)).take 8
      rw [nums_drop, nums_take] at this
      exact this
    have hb8 : Bytes ((bs0.drop x).take 8) := (hby0.drop x).take 8
    have hl8 : 8 = ((bs0.drop x).take 8).length := by rw [List.length_take, List.length_drop]; omega
    have hwin : (bs0.drop x).take 8 = (bs.drop x).take 8 := window_eq fun i h1' h2' => (hag i (by omega)).symm
    refine ref01_Get_c hA1 hl8 (by omega) hb8 ⟨_, rfl, ?_⟩
    rw [hwin]
    have hu := wordAt_u64 hby x
    show ref16_Apply.p9 _ K A nb ca f t n _ nb cb x (wordAt bs x) _ m c m k w
    generalize wordAt bs x = wd at he hu
    have next' : ∀ w' bs', Below w0.heap.size w0 w' → w'.ownsRow base Ty.uint8 1 (.slice (some ⟨g, 0, none⟩) nb cb) nb (nums .u8 bs') → bs'.length = nb → Bytes bs' → (∀ i : Nat, (x : Int) + 8 ≤ (i : Int) → bs'[i]? = bs0[i]?) → applyL f t n (l.drop (k + 1)) bs' = res → ref16_Apply.p10 (ref16_Apply.l0 K (d + 1)) K A nb ca f t n (some ⟨g, 0, none⟩) nb cb (some a) m c m k w' := fun w' bs' g1 g2 g3 g4 g5 g6 => by
      show ref16_Apply.l0 K (d + 1) A nb ca f t n _ nb cb (some a) m c m (IntKind.wrap .i64 ((k : Int) + 1)) w'
      rw [cst k (by omega)]
      exact ih (k + 1) w' bs' (x + 8) (by omega) g1 g2 g3 g4 g5 (by omega) h4 g6
    have ef : IntKind.wrap .u64 f = f := wrapu64_in (by omega) (by omega)
    have et : IntKind.wrap .u64 t = t := wrapu64_in (by omega) (by omega)
    have en : IntKind.wrap .u64 n = n := wrapu64_in (by omega) (by omega)
    unfold U64 at hu
    refine cond_eq (fun hz => ?_) (fun hz => ?_)
    · rw [if_pos hz] at he
      exact next' w bs hb ho hbl hby (fun i hi => hag i (by omega)) he
    · rw [if_neg hz] at he
      have bad : (wd < f ∨ n ≤ wd - f) → ref16_Apply.p12 (ref16_Apply.l0 K (d + 1)) K A nb ca f t n (some ⟨g, 0, none⟩) nb cb x wd (some a) m c m k true w := fun h => by
        rw [if_pos h] at he
        exact hN he.symm w hb
      unfold ref16_Apply.p11
      rw [ef, en]
      refine cond_dec (fun h => bad (.inl h)) (fun h => ?_)
      have ewf : IntKind.wrap .u64 (wd - f) = wd - f := wrapu64_in (by omega) (by omega)
      rw [ewf]
      by_cases h5 : n ≤ wd - f
      · rw [decide_eq_true h5]; exact bad (.inr h5)
      rw [decide_eq_false h5]
      rw [if_neg (by omega)] at he
      refine condP_f ?_
      unfold ref16_Apply.p13
      rw [ef, et, ewf, wrapu64_in (x := wd - f + t) (by omega) (by omega)]
      refine ref01_Put_c ⟨by omega, by omega⟩ fun A3 c3 w3 o3 b3 => ⟨_, _, _, rfl, 9, ?_⟩
      have hb3 := hb.trans (b3.mono hb.size)
      have h88 : widthV 8 = 8 := by decide
      rw [h88] at o3 ⊢
      have ho3 := own_below_kp ho b3
      have hgw := own_lt ho rfl
      have hpl := putAt_len (bs := bs) (x := x) (v := wd - f + t) (by omega)
      refine rput_loop (ps := putB (wd - f + t) 8) (bs := bs) (x := x) (Cs.ofOwn o3) (putB_len _ _).symm (Nat.le_refl 8) (by omega) hnb hbl (fun a e h => ?_) (fun w4 hk4 ho4 => ?_) 8 0 w3 rfl (Kp.refl _ _) (by rw [putN_0]; exact ho3)
      · subst e
        have h6 := (own_lt o3 rfl).1
        have h7 : g < w.heap.size := hgw.2
        omega
      · rw [putN_8] at ho4
        refine next' w4 (putAt bs x (wd - f + t)) (hb3.trans (hk4.below hb3.size fun i hi e => ?_)) ho4 (by rw [hpl]; exact hbl) (putAt_bytes hby) (fun i hi => ?_) he
        · have := hgw.1; simp at this; omega
        · rw [putAt_at (by omega), if_neg (by omega)]
          exact hag i (by omega)
theorem ref16_Apply_c {w : World} {A B : Option Addr} {nb ca m cm : Nat} {bs l : List Int} {f t n : Int} {K : Value → World → Prop} (hx : Cs w A (nums .u8 bs)) (hnb : nb = bs.length) (hca : nb ≤ ca) (hl : nb ≤ 140737488351232) (hb : Bytes bs) (hy : Cs w B (nums .i64 l)) (hm : m = l.length) (hi : ∀ x ∈ l, I64 x)
    (hK : ∀ A' c' w', w'.ownsRow w.heap.size Ty.uint8 1 (.slice A' (applyV bs l f t n).2.length c') (applyV bs l f t n).2.length (nums .u8 (applyV bs l f t n).2) → Below w.heap.size w w' → K (.tuple #[.slice A' (applyV bs l f t n).2.length c', .int .i64 (applyV bs l f t n).1]) w') :
    CallsE Pg ref16_Apply.N #[.slice A nb ca, .slice B m cm, .int .i64 f, .int .i64 t, .int .i64 n] w K := by
  have bad : argBad f t n = true → ref16_Apply.p1 K A nb ca B m cm f t n true w := fun h => by
    unfold applyV at hK
    rw [if_pos h] at hK
    exact hK none 0 w (World.ownsRow_nil _ _ _ _) (Below.refl _ _)
  refine ref16_Apply.ok (ref08_Good_c ⟨_, rfl, ?_⟩)
  cases g1 : goodV f with
  | false => exact bad (by unfold argBad; rw [g1]; rfl)
  | true =>
  refine condP_nt (ref08_Good_c ⟨_, rfl, ?_⟩)
  cases g2 : goodV t with
  | false => exact bad (by unfold argBad; rw [g1, g2]; rfl)
  | true =>
  refine condP_nt (cond_dec (fun g3 => bad (by unfold argBad; rw [g1, g2, decide_eq_true g3]; rfl)) (fun g3 => ?_))
  by_cases g4 : 1048576 < n
  · rw [decide_eq_true g4]; exact bad (by unfold argBad; rw [g1, g2, decide_eq_true g4, decide_eq_false g3]; rfl)
  rw [decide_eq_false g4]
  have hnbad : ¬ argBad f t n = true := by unfold argBad; rw [g1, g2, decide_eq_false g3, decide_eq_false g4]; decide
  have hf := goodV_range g1
  have ht := goodV_range g2
  unfold applyV at hK
  rw [if_neg hnbad] at hK
  refine condP_f (ref16_Right_c hy hm ⟨by omega, by omega⟩ hi ⟨_, rfl, ?_⟩)
  rw [hnb]
  cases h2 : rightV l bs.length with
  | false =>
    rw [h2, if_pos rfl] at hK
    exact hK none 0 w (World.ownsRow_nil _ _ _ _) (Below.refl _ _)
  | true =>
    rw [h2, if_neg (by decide)] at hK
    unfold rightV at h2
    by_cases hl8 : 8192 < l.length
    · rw [if_pos hl8] at h2; cases h2
    rw [if_neg hl8] at h2
    refine condP_nt (ref01_Copy_c hx rfl (by omega) fun A' c' w2 ho2 b2 => ⟨_, _, _, rfl, ?_⟩)
    obtain ⟨A2, c2, e2, hnc, hform⟩ := own_form ho2
    cases e2
    rcases hform with ⟨rfl, hz, rfl, _⟩ | ⟨g, cur, rfl, hg, _⟩
    · have hl0 : l = [] := by
        cases l with
        | nil => rfl
        | cons x l =>
          rw [rightFrom, if_pos] at h2
          · cases h2
          · rw [hz]
            by_cases hx0 : x < 0
            · exact .inl hx0
            · exact .inr (.inr (by unfold imax; simp; omega))
      subst hl0
      have hm0 : m = 0 := by simpa using hm
      subst hm0
      refine ⟨1, ?_⟩
      rw [ref16_Apply.l0_succ]
      refine condP_f ?_
      rw [applyL] at hK
      simp only [hz] at hK ho2 ⊢
      exact hK none 0 w2 ho2 b2
    · refine ⟨m + 1, ?_⟩
      refine rapply_loop (w0 := w) (res := applyL f t n l bs) (bs0 := bs) hx rfl (by omega) hb hy hm (by omega) rfl hf ht (by omega) (by omega) (fun hr w' hb' => ?_) (fun out hr w' hb' hol hob ho' => ?_) m 0 w2 bs 0 (by omega) b2 ho2 rfl hb (fun _ _ => rfl) (by decide) h2 rfl
      · rw [hr] at hK
        exact hK none 0 w' (World.ownsRow_nil _ _ _ _) hb'
      · rw [hr] at hK
        simp only at hK
        have := hK (some ⟨g, 0, none⟩) _ w' (by rw [hol]; exact ho') hb'
        rw [hol] at this
        exact this

end Go.Proofs.Ytfigojigigkdmaa.C
