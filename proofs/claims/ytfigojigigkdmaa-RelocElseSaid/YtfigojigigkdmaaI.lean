/-
  Parts of the proofs of this seat: what the functions compute. No condition beyond what each theorem states.
-/
import Derived.Test.YtfigojigigkdmaaF
import Derived.Test.YtfigojigigkdmaaRK
import Derived.Test.YtfigojigigkdmaaB
import Derived.Test.YtfigojigigkdmaaC
import Derived.Test.YtfigojigigkdmaaD
import Derived.Test.YtfigojigigkdmaaE
import Derived.Test.YtfigojigigkdmaaG
import Derived.Test.YtfigojigigkdmaaH
set_option linter.unusedVariables false
set_option linter.unusedSimpArgs false
set_option maxRecDepth 100000
namespace Go.Proofs.Ytfigojigigkdmaa.C
open Go Go.RowKit Go.Proofs.Ytfigojigigkdmaa Go.Proofs.Ytfigojigigkdmaa.Sh Go.Proofs.Ytfigojigigkdmaa.F Go.Proofs.Ytfigojigigkdmaa.R

/-! ### RelocElse -/
theorem right_ge {nb : Nat} : ∀ (l : List Int) (next : Int), 0 ≤ next → rightFrom nb next l = true → ∀ x ∈ l, next ≤ x ∧ x + 8 ≤ nb
  | [], _, _, _ => fun x hx => by cases hx
  | y :: l, next, h0, h => by
    obtain ⟨h1, h2, h3, h4⟩ := right_cons h0 h
    intro x hx
    rcases List.mem_cons.1 hx with rfl | hx
    · exact ⟨h1, h3⟩
    · have := right_ge l (y + 8) (by omega) h4 x hx
      exact ⟨by omega, this.2⟩
/-- Where no word of the table lies that is not 0, the bytes stay. -/
theorem applyL_else {f t n : Int} : ∀ (l bs c : List Int) (next : Int), 0 ≤ next → rightFrom bs.length next l = true → applyL f t n l bs = some c → ∀ i : Nat, (∀ o ∈ l, o ≤ (i : Int) → (i : Int) < o + 8 → wordAt bs o.toNat = 0) → c[i]? = bs[i]?
  | [], bs, c, next, _, _, h => fun i _ => by rw [applyL] at h; cases h; rfl
  | x :: l, bs, c, next, h0, hr, h => by
    intro i hi
    obtain ⟨h1, h2, h3, h4⟩ := right_cons h0 hr
    have hge := right_ge l (x + 8) (by omega) h4
    rw [applyL] at h
    by_cases hz : wordAt bs x.toNat = 0
    · rw [if_pos hz] at h
      exact applyL_else l bs c (x + 8) (by omega) h4 h i (fun o ho => hi o (List.mem_cons_of_mem _ ho))
    · rw [if_neg hz] at h
      by_cases hbad : wordAt bs x.toNat < f ∨ n ≤ wordAt bs x.toNat - f
      · rw [if_pos hbad] at h; cases h
      rw [if_neg hbad] at h
      have hx8 : x.toNat + 8 ≤ bs.length := by omega
      have hlen := putAt_len (bs := bs) (x := x.toNat) (v := wordAt bs x.toNat - f + t) hx8
      have ih := applyL_else l _ c (x + 8) (by omega) (by rw [hlen]; exact h4) h i (fun o ho g1 g2 => by
        have := hge o ho
        rw [wordAt_apart hx8 (by omega)]
        exact hi o (List.mem_cons_of_mem _ ho) g1 g2)
      rw [ih, putAt_at hx8]
      by_cases hin : x.toNat ≤ i ∧ i < x.toNat + 8
      · exact absurd (hi x (List.mem_cons_self ..) (by omega) (by omega)) hz
      · rw [if_neg hin]
def bools (l : List Bool) : List Value := l.map fun x => .bool x
theorem bools_len (l : List Bool) : (bools l).length = l.length := by simp [bools]
theorem bools_at {l : List Bool} {j : Nat} {x : Bool} (h : l[j]? = some x) : (bools l)[j]? = some (.bool x) := by simp [bools, h]
theorem bools_set (l : List Bool) (i : Nat) (y : Bool) : (bools l).set i (.bool y) = bools (l.set i y) := by simp [bools, List.map_set]
theorem made_bools (n : Nat) : madeCells #[.bool false] (n * 1) = ⟨bools (List.replicate n false)⟩ := by
  rw [← Array.toList_inj, Nat.mul_one, toList_madeCells_one]
  simp [bools]
/-- In the list of marks each byte of a word of the table that is not 0 is marked. -/
def Marked (bs l : List Int) (ms : List Bool) : Prop := ∀ o ∈ l, wordAt bs o.toNat ≠ 0 → ∀ i : Nat, o ≤ (i : Int) → (i : Int) < o + 8 → ms[i]? = some true
theorem mark_loop {w0 : World} {A C D : Option Addr} {nb cb nc cc m cm base g cw x : Nat} {k : Nat} {bs : List Int} {ms : List Bool} {L0 : Option Addr → Nat → Nat → Option Addr → Nat → Nat → Option Addr → Nat → Nat → Option Addr → Nat → Nat → Int → Int → World → Prop} {K : Value → World → Prop}
    (hx : Cs w0 A (nums .u8 bs)) (hnb : nb = bs.length) (hcb : nb ≤ cb) (hb : Bytes bs) (hx8 : x + 8 ≤ nb) (hl : nb ≤ 20000) (hbase : base = w0.heap.size)
    (hK : ∀ w' ms', Kp (fun i => base ≤ i) w0 w' → w'.ownsRow base Ty.bool 1 (.slice (some ⟨g, 0, none⟩) nb cw) nb (bools ms') → ms'.length = nb → (∀ i, x ≤ i → i < x + 8 → ms'[i]? = some (wordAt bs x != 0)) → (∀ i, i < x ∨ x + 8 ≤ i → ms'[i]? = ms[i]?) →
      law16_RelocElse.p14 L0 K A nb cb C nc cc (some ⟨g, 0, none⟩) nb cw D m cm m k w') :
    ∀ (d j : Nat) (w : World) (ms' : List Bool), j + d = 8 → Kp (fun i => base ≤ i) w0 w → w.ownsRow base Ty.bool 1 (.slice (some ⟨g, 0, none⟩) nb cw) nb (bools ms') → ms'.length = nb → (∀ i, x ≤ i → i < x + j → ms'[i]? = some (wordAt bs x != 0)) → (∀ i, i < x ∨ x + j ≤ i → ms'[i]? = ms[i]?) →
      law16_RelocElse.l1 L0 K (d + 1) A nb cb C nc cc (some ⟨g, 0, none⟩) nb cw x ((x + j : Nat) : Int) D m cm m k w := by
  have e8 : IntKind.wrap .i64 ((x : Int) + 8) = ((x + 8 : Nat) : Int) := by rw [wrap64_in (by omega) (by omega)]; push_cast; rfl
  intro d
  induction d with
  | zero =>
    intro j w ms' hj hk ho hml h1 h2
    rw [law16_RelocElse.l1_succ]
    unfold law16_RelocElse.b1
    rw [e8]
    obtain rfl : j = 8 := by omega
    exact cond_dec (fun h => absurd h (by omega)) (fun _ => hK w ms' hk ho hml h1 h2)
  | succ d ih =>
    intro j w ms' hj hk ho hml h1 h2
    rw [law16_RelocElse.l1_succ]
    unfold law16_RelocElse.b1
    rw [e8, Int.toNat_natCast, Int.toNat_natCast, Int.toNat_natCast]
    refine cond_dec (fun _ => ⟨⟨by omega, by omega⟩, ⟨by omega, by omega⟩, ?_⟩) (fun h => absurd h (by omega))
    have e88 : x + 8 - x = 8 := by omega
    rw [e88]
    have hxw : Cs w A (nums .u8 bs) := hx.below (hk.below (Nat.le_refl _) (fun i hi h => by omega))
    have hA1 : Cs w (slA A x cb 1) (nums .u8 ((bs.drop x).take 8)) := by
      have := (slA_cs (k := x) (c := cb) hxw (by rw [nums_len]; omega) (by rw [nums_len]; omega)).take 8
      rw [nums_drop, nums_take] at this
      exact this
    refine num_Get_c hA1 (by rw [List.length_take, List.length_drop]; omega) ((hb.drop x).take 8) ⟨_, rfl, ⟨by omega, by omega⟩, _, rfl, ?_⟩
    refine own_set1 (k := x + j) ho (by rw [bools_len]; omega) fun w' ho' hk' _ => ?_
    rw [bools_set] at ho'
    have e1 : IntKind.wrap .i64 (((x + j : Nat) : Int) + 1) = ((x + (j + 1) : Nat) : Int) := by rw [cst _ (by omega)]; rfl
    rw [e1]
    refine ih (j + 1) w' _ (by omega) (hk.trans hk' (fun _ _ h => h) (fun i _ e => by rw [e]; exact (own_lt ho rfl).1)) ho' (by simpa using hml) (fun i g1 g2 => ?_) (fun i g1 => ?_)
    · rw [List.getElem?_set]
      by_cases hi : x + j = i
      · rw [if_pos hi, if_pos (by omega)]; rfl
      · rw [if_neg hi]; exact h1 i g1 (by omega)
    · rw [List.getElem?_set, if_neg (by omega)]
      exact h2 i (by omega)
theorem else_end {w0 : World} {A C : Option Addr} {nb cb cc cw g base : Nat} {bs cs : List Int} {ms : List Bool} {l : List Int} {K : Value → World → Prop} (hnb : nb = bs.length) (hcl : cs.length = bs.length) (hl : nb ≤ 20000) (hel : ∀ i : Nat, (∀ o ∈ l, o ≤ (i : Int) → (i : Int) < o + 8 → wordAt bs o.toNat = 0) → cs[i]? = bs[i]?) (hml : ms.length = nb) (hM : Marked bs l ms)
    (hx : Cs w0 A (nums .u8 bs)) (hy : Cs w0 C (nums .u8 cs)) (ho : w0.ownsRow base Ty.bool 1 (.slice (some ⟨g, 0, none⟩) nb cw) nb (bools ms)) (hK : K (.bool true) w0) : ∀ (d i : Nat), i + d = nb →
    law16_RelocElse.l2 K (d + 1) A nb cb C nb cc (some ⟨g, 0, none⟩) nb cw nb i w0 := by
  intro d
  induction d with
  | zero =>
    intro i hi
    rw [law16_RelocElse.l2_succ]
    exact cond_dec (fun h => by omega) (fun _ => hK)
  | succ d ih =>
    intro i hi
    rw [law16_RelocElse.l2_succ]
    refine cond_dec (fun _ => ?_) (fun h => absurd h (by omega))
    have hmi : ms[i]? = some ms[i] := List.getElem?_eq_getElem (by omega)
    obtain ⟨a, ea, c0⟩ := (Cs.ofOwn ho).at (bools_at hmi)
    have next : law16_RelocElse.p20 (law16_RelocElse.l2 K (d + 1)) K A nb cb C nb cc (some ⟨g, 0, none⟩) nb cw nb i false w0 := by
      show law16_RelocElse.l2 K (d + 1) A nb cb C nb cc (some ⟨g, 0, none⟩) nb cw nb (IntKind.wrap .i64 ((i : Int) + 1)) w0
      rw [cst i (by omega)]
      exact ih (i + 1) (by omega)
    refine ⟨⟨by omega, by omega⟩, a, ea, _, c0, ?_⟩
    cases hm : ms[i] with
    | true => exact next
    | false =>
      have hc : cs[i]? = bs[i]? := hel i (fun o ho' h1 h2 => by
        by_cases hz : wordAt bs o.toNat = 0
        · exact hz
        · have := hM o ho' hz i h1 h2
          rw [hmi, hm] at this
          cases this)
      have hbi : bs[i]? = some bs[i] := List.getElem?_eq_getElem (by omega)
      rw [hbi] at hc
      obtain ⟨a1, ea1, c1⟩ := hy.at (nums_at hc)
      obtain ⟨a2, ea2, c2⟩ := hx.at (nums_at hbi)
      refine ⟨⟨by omega, by omega⟩, a1, ea1, _, c1, ⟨by omega, by omega⟩, a2, ea2, _, c2, ?_⟩
      have : (bs[i] != bs[i]) = false := by simp
      rw [this]
      exact next
theorem else_loop {w0 : World} {A C D : Option Addr} {nb cb cc m cm base g cw : Nat} {bs cs l : List Int} {K : Value → World → Prop}
    (hx : Cs w0 A (nums .u8 bs)) (hnb : nb = bs.length) (hcb : nb ≤ cb) (hb : Bytes bs) (hl : nb ≤ 20000) (hbase : base = w0.heap.size) (hy : Cs w0 C (nums .u8 cs)) (hcl : cs.length = bs.length) (hel : ∀ i : Nat, (∀ o ∈ l, o ≤ (i : Int) → (i : Int) < o + 8 → wordAt bs o.toNat = 0) → cs[i]? = bs[i]?)
    (hz : Cs w0 D (nums .i64 l)) (hm : m = l.length) (hm2 : m ≤ 2000) (hK : ∀ w', Below w0.heap.size w0 w' → K (.bool true) w') :
    ∀ (d k : Nat) (next : Int) (w : World) (ms : List Bool), k + d = m → 0 ≤ next → rightFrom nb next (l.drop k) = true → (∀ o ∈ l.take k, 0 ≤ o ∧ o + 8 ≤ next) → Kp (fun i => base ≤ i) w0 w → w.ownsRow base Ty.bool 1 (.slice (some ⟨g, 0, none⟩) nb cw) nb (bools ms) → ms.length = nb → Marked bs (l.take k) ms →
      law16_RelocElse.l0 K (d + 1) A nb cb C nb cc (some ⟨g, 0, none⟩) nb cw D m cm m k w := by
  intro d
  induction d with
  | zero =>
    intro k next w ms hk h0 hr hge hkp ho hml hM
    rw [law16_RelocElse.l0_succ]
    show condP (decide ((k : Int) < _)) _ _
    refine cond_dec (fun h => by omega) (fun _ => ?_)
    rw [List.take_of_length_le (by omega)] at hM
    have hbl := hkp.below (Nat.le_refl _) (fun i hi h => by omega)
    exact ⟨nb + 1, else_end hnb hcl hl hel hml hM (hx.below hbl) (hy.below hbl) ho (hK w hbl) nb 0 (by omega)⟩
  | succ d ih =>
    intro k next w ms hk h0 hr hge hkp ho hml hM
    rw [law16_RelocElse.l0_succ]
    show condP (decide ((k : Int) < _)) _ _
    refine cond_dec (fun _ => ?_) (fun h => absurd h (by omega))
    have hbl := hkp.below (Nat.le_refl _) (fun i hi h => by omega)
    have hlt : k < l.length := by omega
    have hxk : l[k]? = some l[k] := List.getElem?_eq_getElem hlt
    obtain ⟨a, rfl, c0⟩ := (hz.below hbl).at (nums_at hxk)
    rw [List.drop_eq_getElem_cons hlt] at hr
    obtain ⟨h1, h2, h3, h4⟩ := right_cons h0 hr
    refine ⟨⟨by omega, by omega⟩, a, rfl, l[k], c0, 9, ?_⟩
    obtain ⟨x, hxe⟩ : ∃ x : Nat, l[k] = x := ⟨l[k].toNat, by omega⟩
    rw [hxe] at h1 h2 h3 h4 ⊢
    refine mark_loop (w0 := w0) (base := base) (ms := ms) (x := x) hx hnb hcb hb (by omega) hl hbase (fun w' ms' hkp' ho' hml' g1 g2 => ?_) 8 0 w ms rfl hkp ho hml (fun i g1 g2 => by omega) (fun i _ => rfl)
    show law16_RelocElse.l0 K (d + 1) A nb cb C nb cc (some ⟨g, 0, none⟩) nb cw (some a) m cm m (IntKind.wrap .i64 ((k : Int) + 1)) w'
    rw [cst k (by omega)]
    have et : l.take (k + 1) = l.take k ++ [(x : Int)] := by rw [take_snoc hxk, hxe]
    refine ih (k + 1) ((x : Int) + 8) w' ms' (by omega) (by omega) h4 (fun o ho2 => ?_) hkp' ho' hml' (fun o ho2 hz2 i i1 i2 => ?_)
    · rw [et] at ho2
      rcases List.mem_append.1 ho2 with ho2 | ho2
      · have := hge o ho2
        exact ⟨this.1, by omega⟩
      · obtain rfl := List.mem_singleton.1 ho2
        exact ⟨by omega, by omega⟩
    · rw [et] at ho2
      rcases List.mem_append.1 ho2 with ho2 | ho2
      · have := hge o ho2
        rw [g2 i (.inl (by omega))]
        exact hM o ho2 hz2 i i1 i2
      · obtain rfl := List.mem_singleton.1 ho2
        rw [Int.toNat_natCast] at hz2
        rw [g1 i (by omega) (by omega)]
        simp [hz2]
theorem law_RelocElse (w : World) (A : Option Addr) (nb cb : Nat) (bs : List Int) (hx : Cs w A (nums .u8 bs)) (hnb : nb = bs.length) (hw : ∀ x ∈ bs, (Lit.int .u8 x).wf = true) (hyl : nb * 1 ≤ 140737488351232) (hcb : nb ≤ cb)
    (B : Option Addr) (m cm : Nat) (l : List Int) (hy : Cs w B (nums .i64 l)) (hm : m = l.length) (hwl : ∀ x ∈ l, (Lit.int .i64 x).wf = true) (hml : m * 8 ≤ 140737488351232) (hcm : m ≤ cm) (cs0 : List Value) (h0 : RdAgg [(1, RdInt .i64), (1, RdInt .i64), (1, RdInt .i64)] w cs0) :
    CallsE Pg law16_RelocElse.N #[.slice A nb cb, .slice B m cm, .agg ⟨cs0⟩] w (fun v w' => v = .bool true ∧ Below w.heap.size w w') := by
  obtain ⟨_, _, rfl, _, ⟨f, rfl, u0⟩, _, _, rfl, _, ⟨t, rfl, u1⟩, _, _, rfl, _, ⟨n, rfl, u2⟩, rfl⟩ := h0
  have hb := bytes_wf hw
  have hi := ints_wf hwl
  refine law16_RelocElse.ok (q2_0 := f) (q2_1 := t) (q2_2 := n) (wlet_intro fun w1 h1 => ?_)
  have hal1 : Below w.heap.size w w1 := by rw [h1]; exact (Below.refl _ _).alloc (Nat.le_refl _) _
  have hB1 : Blk w1 w.heap.size 25 [.int .i64 f, .int .i64 t, .int .i64 n] := by rw [h1]; exact Blk.new w _ _
  clear h1
  refine law16_alive_c fun w2 b2 => ⟨_, rfl, condP_nt ?_⟩
  have b2' := hal1.trans (b2.mono hal1.size)
  unfold law16_RelocElse.p1
  refine cond_dec (fun _ => ⟨rfl, b2'⟩) (fun h9 => cond_dec (fun _ => ⟨rfl, b2'⟩) (fun h8 => ?_))
  have hB2 : Blk w2 w.heap.size 25 [.int .i64 f, .int .i64 t, .int .i64 n] := hB1.kp (Kp.of_below b2) id
  refine ⟨_, hB2.cell' (j := 0) rfl, _, hB2.cell' (j := 1) rfl, _, hB2.cell' (j := 2) rfl, ?_⟩
  refine reloc_Apply_c (hx.below b2') hnb (by omega) hb (hy.below b2') hm hi fun A3 c3 w3 o3 b3 => ⟨_, _, _, _, rfl, ?_⟩
  have b3' := b2'.trans (b3.mono b2'.size)
  unfold applyV at o3 ⊢
  by_cases hab : argBad f t n = true
  · rw [if_pos hab]
    exact ⟨rfl, b3'⟩
  rw [if_neg hab] at o3 ⊢
  cases hr : rightV l bs.length with
  | false =>
    rw [if_pos rfl]
    exact ⟨rfl, b3'⟩
  | true =>
    rw [hr, if_neg (by decide)] at o3
    rw [if_neg (by decide)]
    cases ha : applyL f t n l bs with
    | none => exact ⟨rfl, b3'⟩
    | some cs =>
      rw [ha] at o3
      simp only at o3 ⊢
      have hr' := hr
      unfold rightV at hr'
      by_cases hl8 : 8192 < l.length
      · rw [if_pos hl8] at hr'; cases hr'
      rw [if_neg hl8] at hr'
      have hc := applyL_keeps l bs cs 0 (by decide) hb hr' ha
      have hel := applyL_else l bs cs 0 (by decide) hr' ha
      have ecl : cs.length = nb := by rw [hc.2, hnb]
      rw [ecl] at o3 ⊢
      refine cond_ne (fun h => absurd rfl h) (fun _ => ?_)
      refine cond_ne (fun h => absurd rfl h) (fun _ => ?_)
      refine reloc_Right_c (hy.below b3') hm ⟨by omega, by omega⟩ hi ⟨_, rfl, ?_⟩
      rw [hnb, hr, ← hnb]
      refine ⟨⟨by omega, by omega, by omega, by omega⟩, ?_⟩
      rw [Int.toNat_natCast, made_bools]
      refine wlet_intro fun w4 h4 => ?_
      have hal : Below w3.heap.size w3 w4 := by rw [h4]; exact (Below.refl _ _).alloc (Nat.le_refl _) _
      have ho4 : w4.ownsRow w3.heap.size Ty.bool 1 (.slice (some ⟨w3.heap.size, 0, none⟩) nb nb) nb (bools (List.replicate nb false)) := by rw [h4]; exact own_new (Nat.le_refl _) (by unfold maxLen; omega) (by rw [bools_len, List.length_replicate]; omega)
      clear h4
      refine ⟨m + 1, else_loop (w0 := w3) (base := w3.heap.size) (cs := cs) (hx.below b3') hnb hcb hb (by omega) rfl (Cs.ofOwn o3) hc.2 hel (hy.below b3') hm (by omega) (fun w' hb' => ⟨rfl, b3'.trans (hb'.mono b3'.size)⟩) m 0 0 w4 _ (by omega) (by decide) (by rw [hnb]; exact hr') (fun o ho => by cases ho) ((Kp.of_below hal).mono (fun _ _ h => h.elim)) ho4 (by simp) (fun o ho => by cases ho)⟩

end Go.Proofs.Ytfigojigigkdmaa.C
