/-
  Parts of the proofs of this seat: what the functions compute. No condition beyond what each theorem states.
-/
import Derived.Test.YtfigojigigkdmaaF
import Derived.Test.YtfigojigigkdmaaRK
import Derived.Test.YtfigojigigkdmaaB
import Derived.Test.YtfigojigigkdmaaC
import Derived.Test.YtfigojigigkdmaaD
set_option linter.unusedVariables false
set_option linter.unusedSimpArgs false
set_option maxRecDepth 100000
namespace Go.Proofs.Ytfigojigigkdmaa.C
open Go Go.RowKit Go.Proofs.Ytfigojigigkdmaa Go.Proofs.Ytfigojigigkdmaa.Sh Go.Proofs.Ytfigojigigkdmaa.F Go.Proofs.Ytfigojigigkdmaa.R

/-! ### RelocBack -/
theorem applyL_some {p q s n : Int} : ∀ (l bs c : List Int) (next : Int), 0 ≤ next → rightFrom bs.length next l = true → applyL p q n l bs = some c → ∃ d, applyL p s n l bs = some d
  | [], bs, c, next, _, _, h => ⟨bs, rfl⟩
  | x :: l, bs, c, next, h0, hr, h => by
    obtain ⟨h1, h2, h3, h4⟩ := right_cons h0 hr
    have hx8 : x.toNat + 8 ≤ bs.length := by omega
    rw [applyL] at h
    rw [applyL]
    by_cases hz : wordAt bs x.toNat = 0
    · rw [if_pos hz] at h ⊢
      exact applyL_some l bs c (x + 8) (by omega) h4 h
    · rw [if_neg hz] at h ⊢
      by_cases hbad : wordAt bs x.toNat < p ∨ n ≤ wordAt bs x.toNat - p
      · rw [if_pos hbad] at h; cases h
      rw [if_neg hbad] at h ⊢
      rw [applyL_put (x := x.toNat) l bs (x + 8) (by omega) (by omega) hx8 h4] at h ⊢
      obtain ⟨c', hc', _⟩ := Option.map_eq_some_iff.1 h
      obtain ⟨d, hd⟩ := applyL_some l bs c' (x + 8) (by omega) h4 hc'
      exact ⟨_, by rw [hd]; rfl⟩
theorem wf_u32 {n : Int} (h : (Lit.int .u32 n).wf = true) : 0 ≤ n ∧ n ≤ 4294967295 := by
  simp [Lit.wf, IntKind.min, IntKind.max, IntKind.bits, IntKind.signed] at h
  omega
theorem ints_wf {xs : List Int} (h : ∀ x ∈ xs, (Lit.int .i64 x).wf = true) : ∀ x ∈ xs, I64 x := fun x hx => wf_i64 (h x hx)
theorem good_of {n : Int} (h0 : 0 ≤ n) (h1 : n ≤ 4294967295) : goodV (256 + 256 * n) = true := by
  unfold goodV
  rw [decide_eq_true (by omega), decide_eq_true (by omega), Int.tmod_eq_emod_of_nonneg (by omega)]
  have : (256 + 256 * n) % 256 = 0 := by omega
  rw [this]; rfl
theorem law_RelocBack (w : World) (A : Option Addr) (nb cb : Nat) (bs : List Int) (hx : Cs w A (nums .u8 bs)) (hnb : nb = bs.length) (hw : ∀ x ∈ bs, (Lit.int .u8 x).wf = true) (hyl : nb * 1 ≤ 140737488351232) (hcb : nb ≤ cb)
    (B : Option Addr) (m cm : Nat) (l : List Int) (hy : Cs w B (nums .i64 l)) (hm : m = l.length) (hwl : ∀ x ∈ l, (Lit.int .i64 x).wf = true) (hml : m * 8 ≤ 140737488351232) (hcm : m ≤ cm) (cs0 : List Value) (h0 : RdAgg (List.replicate 3 (1, RdInt .u32)) w cs0) :
    CallsE Pg law16_RelocBack.N #[.slice A nb cb, .slice B m cm, .agg ⟨cs0⟩] w (fun v w' => v = .bool true ∧ Below w.heap.size w w') := by
  obtain ⟨_, _, rfl, _, ⟨n0, rfl, u0⟩, _, _, rfl, _, ⟨n1, rfl, u1⟩, _, _, rfl, _, ⟨n2, rfl, u2⟩, rfl⟩ := h0
  have v0 := wf_u32 u0
  have v1 := wf_u32 u1
  have v2 := wf_u32 u2
  have hb := bytes_wf hw
  have hi := ints_wf hwl
  refine law16_RelocBack.ok (q2_0 := n0) (q2_1 := n1) (q2_2 := n2) (wlet_intro fun w1 h1 => ?_)
  have hal1 : Below w.heap.size w w1 := by rw [h1]; exact (Below.refl _ _).alloc (Nat.le_refl _) _
  have hB1 : Blk w1 w.heap.size 37 [.int .u32 n0, .int .u32 n1, .int .u32 n2] := by rw [h1]; exact Blk.new w _ _
  clear h1
  refine law16_alive_c fun w2 b2 => ⟨_, rfl, condP_nt (cond_dec (fun _ => ⟨rfl, hal1.trans (b2.mono hal1.size)⟩) (fun _ => ?_))⟩
  have b2' := hal1.trans (b2.mono hal1.size)
  have hB2 := hB1.kp (Kp.of_below b2) id
  refine ⟨⟨by decide, by decide⟩, _, hB2.cell' (j := 0) rfl, ⟨by decide, by decide⟩, _, hB2.cell' (j := 1) rfl, ⟨by decide, by decide⟩, _, hB2.cell' (j := 2) rfl, ?_⟩
  have ew : ∀ n : Int, 0 ≤ n ∧ n ≤ 4294967295 → IntKind.wrap .i64 ((256 : Int) + (IntKind.wrap .i64 ((256 : Int) * (IntKind.wrap .i64 n)))) = 256 + 256 * n := fun n h => by
    rw [wrap64_in (x := n) (by omega) (by omega), wrap64_in (x := 256 * n) (by omega) (by omega), wrap64_in (by omega) (by omega)]
  rw [ew n0 v0, ew n1 v1, ew n2 v2]
  have g0 := good_of v0.1 v0.2
  have g1 := good_of v1.1 v1.2
  have g2 := good_of v2.1 v2.2
  generalize hp : (256 + 256 * n0 : Int) = p at g0
  generalize hq : (256 + 256 * n1 : Int) = q at g1
  generalize hs : (256 + 256 * n2 : Int) = s at g2
  have nob : ∀ f t : Int, goodV f = true → goodV t = true → ¬ argBad f t 1048576 = true := fun f t h1 h2 => by unfold argBad; rw [h1, h2]; decide
  show law16_RelocBack.p4 _ A nb cb B m cm p q s 1048576 w2
  refine reloc_Apply_c (hx.below b2') hnb (by omega) hb (hy.below b2') hm hi fun A3 c3 w3 o3 b3 => ⟨_, _, _, _, rfl, ?_⟩
  have b3' := b2'.trans (b3.mono b2'.size)
  have hk := applyV_keeps (l := l) (f := p) (t := q) (n := 1048576) hb
  cases hr : rightV l bs.length with
  | false =>
    have e : applyV bs l p q 1048576 = (4, []) := by unfold applyV; rw [if_neg (nob p q g0 g1), hr, if_pos rfl]
    rw [e]
    exact ⟨rfl, b3'⟩
  | true =>
    cases ha : applyL p q 1048576 l bs with
    | none =>
      have e : applyV bs l p q 1048576 = (10, []) := by unfold applyV; rw [if_neg (nob p q g0 g1), hr, if_neg (by decide), ha]
      rw [e]
      exact ⟨rfl, b3'⟩
    | some c =>
      have e : applyV bs l p q 1048576 = (0, c) := by unfold applyV; rw [if_neg (nob p q g0 g1), hr, if_neg (by decide), ha]
      rw [e] at o3 hk ⊢
      simp only at o3 hk ⊢
      have hr' := hr
      unfold rightV at hr'
      by_cases hl8 : 8192 < l.length
      · rw [if_pos hl8] at hr'; cases hr'
      rw [if_neg hl8] at hr'
      have hc := applyL_keeps l bs c 0 (by decide) hb hr' ha
      have rp := goodV_range g0
      have rq := goodV_range g1
      have on := fun s => applyL_on (s := s) rp.1 rq (show (1048576 : Int) ≤ 1048576 from Int.le_refl _) l bs c 0 (by decide) hb hr' ha
      obtain ⟨dd, hd⟩ := applyL_some (s := s) l bs c 0 (by decide) hr' ha
      have e1 : applyV c l q p 1048576 = (0, bs) := by unfold applyV; rw [if_neg (nob q p g1 g0), hc.2, hr, if_neg (by decide), on p, applyL_id l bs c 0 (by decide) hb hr' ha]
      have e2 : applyV c l q s 1048576 = (0, dd) := by unfold applyV; rw [if_neg (nob q s g1 g2), hc.2, hr, if_neg (by decide), on s, hd]
      have e3 : applyV bs l p s 1048576 = (0, dd) := by unfold applyV; rw [if_neg (nob p s g0 g2), hr, if_neg (by decide), hd]
      refine condP_f (reloc_Apply_c (Cs.ofOwn o3) rfl (by omega) hc.1 (hy.below b3') hm hi fun A4 c4 w4 o4 b4 => ⟨_, _, _, _, rfl, ?_⟩)
      have b4' := b3'.trans (b4.mono b3'.size)
      refine reloc_Apply_c (Cs.ofOwn (own_below_kp o3 b4)) rfl (by omega) hc.1 (hy.below b4') hm hi fun A5 c5 w5 o5 b5 => ⟨_, _, _, _, rfl, ?_⟩
      have b5' := b4'.trans (b5.mono b4'.size)
      refine reloc_Apply_c (hx.below b5') hnb (by omega) hb (hy.below b5') hm hi fun A6 c6 w6 o6 b6 => ⟨_, _, _, _, rfl, ?_⟩
      have b6' := b5'.trans (b6.mono b5'.size)
      rw [e1] at o4 ⊢
      rw [e2] at o5 ⊢
      rw [e3] at o6 ⊢
      have b46 : Below w4.heap.size w4 w6 := b5.trans (b6.mono b5.size)
      have hdd := applyL_keeps l bs dd 0 (by decide) hb hr' hd
      refine condP_t (condP_t (condP_t ?_))
      refine ref01_Same_c (Cs.ofOwn (own_below_kp o4 b46)) (hx.below b6') rfl hnb hb ⟨_, rfl, condP_t ?_⟩
      exact ref01_Same_c (Cs.ofOwn (own_below_kp o5 b6)) (Cs.ofOwn o6) rfl rfl hdd.1 ⟨_, rfl, rfl, b6'⟩
/-! ### RelocApplies -/
theorem spoil_loop {w0 : World} {A B C D E' : Option Addr} {n c nb cb nc cc nd cd ne ce base : Nat} {K : Value → World → Prop} (hne : ne ≤ 140737488355328)
    (hK : ∀ w', Kp (fun i => base ≤ i) w0 w' → law16_RelocApplies.p9 K A n c B nb cb C nc cc D nd cd w') : ∀ (d j : Nat) (w : World) (xs : List Int), j + d = ne → Kp (fun i => base ≤ i) w0 w → w.ownsRow base Ty.uint8 1 (.slice E' ne ce) ne (nums .u8 xs) → xs.length = ne →
    law16_RelocApplies.l0 K (d + 1) A n c B nb cb C nc cc D nd cd E' ne ce ne j w := by
  intro d
  induction d with
  | zero =>
    intro j w xs hj hk ho hl
    rw [law16_RelocApplies.l0_succ]
    exact cond_dec (fun h => by omega) (fun _ => hK w hk)
  | succ d ih =>
    intro j w xs hj hk ho hl
    rw [law16_RelocApplies.l0_succ]
    refine cond_dec (fun _ => ?_) (fun h => absurd h (by omega))
    have hxj : xs[j]? = some xs[j] := List.getElem?_eq_getElem (by omega)
    obtain ⟨a, rfl, c0⟩ := (Cs.ofOwn ho).at (nums_at hxj)
    refine ⟨⟨by omega, by omega⟩, a, rfl, _, c0, ⟨by omega, by omega⟩, a, rfl, ?_⟩
    refine own_set1 (k := j) ho (by rw [nums_len]; omega) fun w' ho' hk' _ => ?_
    rw [nums_set] at ho'
    rw [cst j (by omega)]
    exact ih (j + 1) w' _ (by omega) (hk.trans hk' (fun _ _ h => h) (fun i _ e => by rw [e]; exact (own_lt ho rfl).1)) ho' (by simpa using hl)
theorem law_RelocApplies (w : World) (A : Option Addr) (nb cb : Nat) (bs : List Int) (hx : Cs w A (nums .u8 bs)) (hnb : nb = bs.length) (hw : ∀ x ∈ bs, (Lit.int .u8 x).wf = true) (hyl : nb * 1 ≤ 140737488351232) (hcb : nb ≤ cb)
    (B : Option Addr) (m cm : Nat) (l : List Int) (hy : Cs w B (nums .i64 l)) (hm : m = l.length) (hwl : ∀ x ∈ l, (Lit.int .i64 x).wf = true) (hml : m * 8 ≤ 140737488351232) (hcm : m ≤ cm) (cs0 : List Value) (h0 : RdAgg [(1, RdInt .i64), (1, RdInt .i64), (1, RdInt .i64)] w cs0) :
    CallsE Pg law16_RelocApplies.N #[.slice A nb cb, .slice B m cm, .agg ⟨cs0⟩] w (fun v w' => v = .bool true ∧ Below w.heap.size w w') := by
  obtain ⟨_, _, rfl, _, ⟨f, rfl, u0⟩, _, _, rfl, _, ⟨t, rfl, u1⟩, _, _, rfl, _, ⟨n, rfl, u2⟩, rfl⟩ := h0
  have hb := bytes_wf hw
  have hi := ints_wf hwl
  refine law16_RelocApplies.ok (q2_0 := f) (q2_1 := t) (q2_2 := n) (wlet_intro fun w1 h1 => ?_)
  have hal1 : Below w.heap.size w w1 := by rw [h1]; exact (Below.refl _ _).alloc (Nat.le_refl _) _
  have hB1 : Blk w1 w.heap.size 25 [.int .i64 f, .int .i64 t, .int .i64 n] := by rw [h1]; exact Blk.new w _ _
  clear h1
  refine law16_alive_c fun w2 b2 => ⟨_, rfl, condP_nt (cond_dec (fun _ => ⟨rfl, hal1.trans (b2.mono hal1.size)⟩) (fun hm9 => ?_))⟩
  have b2' := hal1.trans (b2.mono hal1.size)
  refine ref01_Copy_c (hx.below b2') hnb (by omega) fun A3 c3 w3 o3 b3 => ⟨_, _, _, rfl, ?_⟩
  have b3' := b2'.trans (b3.mono b2'.size)
  refine copy_i64 (hy.below b3') hm (by omega) fun A4 c4 w4 o4 b4 => ⟨_, _, _, rfl, ?_⟩
  have b4' := b3'.trans (b4.mono b3'.size)
  have hB4 : Blk w4 w.heap.size 25 [.int .i64 f, .int .i64 t, .int .i64 n] := (hB1.kp (Kp.of_below b2) id).kp (Kp.of_below (b3.trans (b4.mono b3.size))) id
  have x3 := (Cs.ofOwn o3).below b4
  refine ⟨_, hB4.cell' (j := 0) rfl, _, hB4.cell' (j := 1) rfl, _, hB4.cell' (j := 2) rfl, ?_⟩
  refine reloc_Apply_c x3 hnb (by omega) hb (Cs.ofOwn o4) hm hi fun A5 c5 w5 o5 b5 => ⟨_, _, _, _, rfl, ?_⟩
  have b5' := b4'.trans (b5.mono b4'.size)
  have hB5 := hB4.kp (Kp.of_below b5) id
  refine ⟨_, hB5.cell' (j := 0) rfl, _, hB5.cell' (j := 1) rfl, _, hB5.cell' (j := 2) rfl, ?_⟩
  refine ref16_Apply_c (hx.below b5') hnb hcb (by omega) hb (hy.below b5') hm hi fun A6 c6 w6 o6 b6 => ⟨_, _, _, _, rfl, ?_⟩
  have b6' := b5'.trans (b6.mono b5'.size)
  have hk := applyV_keeps (l := l) (f := f) (t := t) (n := n) hb
  have o5' := own_below_kp o5 b6
  refine cond_ne (fun h => absurd rfl h) (fun _ => ?_)
  refine ref01_Same_c (Cs.ofOwn o5') (Cs.ofOwn o6) rfl rfl hk.1 ⟨_, rfl, condP_f ⟨(applyV bs l f t n).2.length + 1, ?_⟩⟩
  have b46 : Below w4.heap.size w4 w6 := b5.trans (b6.mono b5.size)
  refine spoil_loop (w0 := w6) (base := w4.heap.size) (by omega) (fun w7 k7 => ?_) _ 0 w6 _ (by omega) (Kp.refl _ _) o5' rfl
  have b47 : Below w4.heap.size w4 w7 := b46.trans (k7.below b46.size fun i hi h => by omega)
  have b7' := b4'.trans (b47.mono b4'.size)
  refine ref01_Same_c (x3.below b47) (hx.below b7') hnb hnb hb ⟨_, rfl, condP_t ?_⟩
  exact ref01_Ints_c ((Cs.ofOwn o4).below b47) (hy.below b7') hm hm (by omega) ⟨_, rfl, rfl, b7'⟩

end Go.Proofs.Ytfigojigigkdmaa.C
