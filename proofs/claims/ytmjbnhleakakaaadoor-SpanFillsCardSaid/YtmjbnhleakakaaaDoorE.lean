/-
  Parts of the proofs of this seat: what the functions compute. No condition beyond what each theorem states.
-/
import Derived.Test.YtmjbnhleakakaaaDoorF
import Derived.Test.YtmjbnhleakakaaaDoorRK
import Derived.Test.YtmjbnhleakakaaaDoorA
import Derived.Test.YtmjbnhleakakaaaDoorB
import Derived.Test.YtmjbnhleakakaaaDoorC
import Derived.Test.YtmjbnhleakakaaaDoorD
set_option linter.unusedVariables false
set_option linter.unusedSimpArgs false
set_option maxRecDepth 100000
namespace Go.Proofs.YtmjbnhleakakaaaDoor.C
open Go Go.RowKit Go.Proofs.YtmjbnhleakakaaaDoor Go.Proofs.YtmjbnhleakakaaaDoor.Sh Go.Proofs.YtmjbnhleakakaaaDoor.F Go.Proofs.YtmjbnhleakakaaaDoor.R

/-! ### SpanPlaces, SpanFills -/
theorem slot_at {pg sz : Int} {n k : Nat} (hsz : 1 ≤ sz) (hk : k < n) : slotV pg sz n (pg * 256 + (k : Int) * sz) = ((k : Int), true) := by
  unfold slotV
  have h0 : 0 ≤ (k : Int) * sz := Int.mul_nonneg (by omega) (by omega)
  have e : pg * 256 + (k : Int) * sz - pg * 256 = (k : Int) * sz := by omega
  rw [if_neg (by omega), e, Int.mul_emod_left, Int.mul_ediv_cancel _ (by omega), if_neg (by omega)]
theorem slot_over {pg sz : Int} {n : Nat} (hsz : 1 ≤ sz) : slotV pg sz n (pg * 256 + (n : Int) * sz) = (0, false) := by
  unfold slotV
  have h0 : 0 ≤ (n : Int) * sz := Int.mul_nonneg (by omega) (by omega)
  have e : pg * 256 + (n : Int) * sz - pg * 256 = (n : Int) * sz := by omega
  rw [if_neg (by omega), e, Int.mul_emod_left, Int.mul_ediv_cancel _ (by omega), if_pos (.inr (by omega))]
theorem slot_in {pg sz : Int} {n k : Nat} (hsz : 1 < sz) : (slotV pg sz n (pg * 256 + (k : Int) * sz + 1)).2 = false := by
  unfold slotV
  have h0 : 0 ≤ (k : Int) * sz := Int.mul_nonneg (by omega) (by omega)
  have e : pg * 256 + (k : Int) * sz + 1 - pg * 256 = 1 + (k : Int) * sz := by omega
  have e2 : (1 + (k : Int) * sz) % sz = 1 := by rw [Int.add_mul_emod_self_right]; exact Int.emod_eq_of_lt (by omega) (by omega)
  rw [if_neg (by omega), e, e2, if_pos (.inl (by decide))]
theorem places_loop {w0 : World} {b : Nat} {p : Option Addr} {pg pgs cl sz : Int} {n : Nat} {S : Nat → Bool} {F : Nat → Prop} {K : Value → World → Prop} (h : SpanV w0 b p pg pgs cl sz n S F) (hpg : 0 ≤ pg ∧ pg ≤ 4096) (hsz : 1 ≤ sz ∧ sz ≤ 4096) (hn : 1 ≤ n ∧ n ≤ 16) (hpgs : 1 ≤ pgs ∧ pgs ≤ 16 ∧ pg + pgs ≤ 4096) (hfit : (n : Int) * sz ≤ pgs * 256)
    (hK : ∀ w', Below w0.heap.size w0 w' → K (.bool true) w') : ∀ (d k : Nat) (w : World), k + d = n → Below w0.heap.size w0 w → law10_SpanPlaces.l0 K (d + 1) pg p (pg * 256 + (k : Int) * sz) k w := by
  intro d
  induction d with
  | zero =>
    intro k w hk hb
    rw [law10_SpanPlaces.l0_succ]
    obtain rfl : k = n := by omega
    refine span_Span_Slots_c (h.below hb) fun w1 b1 => ⟨_, rfl, cond_dec (fun h => by omega) (fun _ => ?_)⟩
    have b1' := hb.trans (b1.mono hb.size)
    refine span_Span_Slots_c (h.below b1') fun w2 b2 => ⟨_, rfl, ?_⟩
    have b2' := b1'.trans (b2.mono b1'.size)
    refine span_Span_At_c (h.below b2') hpg hsz fun w3 b3 => ⟨_, _, rfl, ?_⟩
    have b3' := b2'.trans (b3.mono b2'.size)
    have ea : atV pg sz k (k : Int) = (0, false) := by unfold atV; rw [if_pos (.inr (Int.le_refl _))]
    rw [ea]
    have hm : 0 ≤ (k : Int) * sz := Int.mul_nonneg (by omega) (by omega)
    refine span_Span_Slot_c (h.below b3') ⟨by omega, by omega⟩ hpg hsz fun w4 b4 => ⟨_, _, rfl, ?_⟩
    have b4' := b3'.trans (b4.mono b3'.size)
    rw [slot_over hsz.1]
    refine condP_t (condP_t ?_)
    refine span_Span_Pages_c (h.below b4') ⟨_, rfl, ?_⟩
    rw [wrap64_in (x := pg + pgs) (by omega) (by omega), wrap64_in (by omega) (by omega)]
    refine cond_dec (fun _ => ?_) (fun hh => absurd (by omega) hh)
    refine span_Span_Pages_c (h.below b4') ⟨_, rfl, ?_⟩
    rw [wrap64_in (x := pg + pgs) (by omega) (by omega)]
    refine cond_dec (fun _ => ?_) (fun hh => absurd (by omega) hh)
    refine span_Span_Slots_c (h.below b4') fun w5 b5 => ⟨_, rfl, ?_⟩
    rw [decide_eq_true (by omega)]
    exact hK w5 (b4'.trans (b5.mono b4'.size))
  | succ d ih =>
    intro k w hk hb
    rw [law10_SpanPlaces.l0_succ]
    refine span_Span_Slots_c (h.below hb) fun w1 b1 => ⟨_, rfl, cond_dec (fun _ => ?_) (fun h => absurd h (by omega))⟩
    have b1' := hb.trans (b1.mono hb.size)
    refine span_Span_At_c (h.below b1') hpg hsz fun w2 b2 => ⟨_, _, rfl, ?_⟩
    have b2' := b1'.trans (b2.mono b1'.size)
    have ea : atV pg sz n (k : Int) = (pg * 256 + (k : Int) * sz, true) := by unfold atV; rw [if_neg (by omega)]
    rw [ea]
    have hm : 0 ≤ (k : Int) * sz ∧ (k : Int) * sz ≤ 16 * 4096 := ⟨Int.mul_nonneg (by omega) (by omega), Int.mul_le_mul (by omega) (by omega) (by omega) (by omega)⟩
    refine span_Span_Slot_c (h.below b2') ⟨by omega, by omega⟩ hpg hsz fun w3 b3 => ⟨_, _, rfl, ?_⟩
    have b3' := b2'.trans (b3.mono b2'.size)
    rw [slot_at hsz.1 (by omega)]
    unfold law10_SpanPlaces.p8
    rw [wrap64_in (by omega) (by omega)]
    refine span_Span_Slot_c (h.below b3') ⟨by omega, by omega⟩ hpg hsz fun w4 b4 => ⟨_, _, rfl, ?_⟩
    have b4' := b3'.trans (b4.mono b3'.size)
    have next : law10_SpanPlaces.p10 (law10_SpanPlaces.l0 K (d + 1)) K pg p k (pg * 256 + (k : Int) * sz) false w4 := by
      refine span_Span_Size_c (h.below b4') ⟨_, rfl, ?_⟩
      show law10_SpanPlaces.l0 K (d + 1) pg p (IntKind.wrap .i64 (pg * 256 + (k : Int) * sz + sz)) (IntKind.wrap .i64 ((k : Int) + 1)) w4
      have e : pg * 256 + (k : Int) * sz + sz = pg * 256 + ((k + 1 : Nat) : Int) * sz := by push_cast; rw [Int.add_mul, Int.one_mul]; omega
      rw [wrap64_in (x := pg * 256 + (k : Int) * sz + sz) (by omega) (by omega), e, cst k (by omega)]
      exact ih (k + 1) w4 (by omega) b4'
    refine condP_f (cond_ne (fun h => absurd rfl h) (fun _ => condP_f (cond_ne (fun h => absurd rfl h) (fun _ => ?_))))
    by_cases h1 : 1 < sz
    · rw [slot_in h1]
      exact next
    · cases (slotV pg sz n (pg * 256 + (k : Int) * sz + 1)).2 with
      | false => exact next
      | true =>
        refine condP_t (span_Span_Size_c (h.below b4') ⟨_, rfl, ?_⟩)
        rw [decide_eq_false h1]
        exact next
theorem law_SpanPlaces (w : World) (hT : Tab w) (pg : Int) (hpg : (Lit.int .i64 pg).wf = true) (cl : Int) (hcl : (Lit.int .i64 cl).wf = true) (size : Int) (hsize : (Lit.int .i64 size).wf = true) :
    CallsE Pg law10_SpanPlaces.N #[.int .i64 pg, .int .i64 cl, .int .i64 size] w (fun v w' => v = .bool true ∧ Below w.heap.size w w') := by
  refine law10_SpanPlaces.ok (law10_alive_c hT fun w1 b1 => ⟨_, rfl, condP_nt ?_⟩)
  refine span_New_c (wf_i64 hpg) (wf_i64 hcl) (wf_i64 hsize) (fun w2 he b2 => ⟨_, _, rfl, ?_⟩) (fun w2 p F he h b2 => ⟨_, _, rfl, ?_⟩)
  · exact cond_ne (fun _ => ⟨rfl, b1.trans (b2.mono b1.size)⟩) (fun h => absurd h he)
  · have b2' := b1.trans (b2.mono b1.size)
    obtain ⟨h1, h2, h3, h4, h5, h6, h7, h8, h9, h10, _⟩ := new_ok he
    have hs := (clsSlots_nat cl).2
    refine cond_ne (fun h => absurd rfl h) (fun _ => ?_)
    unfold law10_SpanPlaces.p3
    rw [wrap64_in (by omega) (by omega)]
    refine ⟨slotsN cl + 1, ?_⟩
    have := places_loop (w0 := w2) h ⟨h3, by omega⟩ ⟨h7, h8⟩ ⟨h9, hs⟩ ⟨h4, h5, h6⟩ h10 (K := fun v w' => v = .bool true ∧ Below w.heap.size w w') (fun w' hb => ⟨rfl, b2'.trans (hb.mono b2'.size)⟩) (slotsN cl) 0 w2 (by omega) (Below.refl _ _)
    rw [show pg * 256 + ((0 : Nat) : Int) * spSize cl size = pg * 256 from by simp] at this
    exact this
/-- The first places are in. -/
def ltS (i : Nat) : Nat → Bool := fun j => decide (j < i)
theorem free_lt {i n : Nat} (h : i < n) : freeV (ltS i) n = i := by
  unfold freeV
  have := nxt_skip (S := ltS i) (want := false) (n := n) (g := i) i 0 (by omega) (fun j _ h2 => by unfold ltS; rw [decide_eq_true h2]; decide)
  rw [Nat.sub_zero] at this
  rw [this]
  exact nxt_here (S := ltS i) (want := false) h (by unfold ltS; rw [decide_eq_false (by omega)])
theorem free_full {n : Nat} : freeV (ltS n) n = -1 := by
  unfold freeV
  have := nxt_skip (S := ltS n) (want := false) (n := n) (g := n) n 0 (by omega) (fun j _ h2 => by unfold ltS; rw [decide_eq_true h2]; decide)
  rw [Nat.sub_zero] at this
  rw [this]
  exact nxt_end (Nat.le_refl _)
theorem take_lt {i n : Nat} (h : i < n) : takeS (ltS i) n = ltS (i + 1) ∧ takeV (ltS i) n = ((i : Int), true) := by
  unfold takeS takeV
  rw [free_lt h, if_neg (by omega), if_neg (by omega), Int.toNat_natCast]
  refine ⟨funext fun j => ?_, rfl⟩
  unfold upd ltS
  by_cases hj : j = i
  · rw [if_pos hj, decide_eq_true (by omega)]
  · rw [if_neg hj]; exact decide_eq_decide.2 (by omega)
theorem cnt_all {S : Nat → Bool} : ∀ (n b : Nat), (∀ i, b ≤ i → i < b + n → S i = true) → cnt S b n = n
  | 0, _, _ => rfl
  | n + 1, b, h => by rw [cnt, h b (by omega) (by omega), cnt_all n (b + 1) (fun i h1 h2 => h i (by omega) (by omega))]; show 1 + n = n + 1; omega
theorem cnt_lt {i n : Nat} (h : i ≤ n) : cnt (ltS i) 0 n = i := by
  have e : n = i + (n - i) := by omega
  rw [e, cnt_add, cnt_all i 0 (fun j _ h2 => by unfold ltS; rw [decide_eq_true (by omega)]), cnt_none (ltS i) (n - i) (0 + i) (fun j hj => by unfold ltS; rw [decide_eq_false (by omega)])]; omega
theorem lt_within {i n : Nat} (h : i ≤ n) : Within (ltS i) n := fun j hj => by unfold ltS; rw [decide_eq_false (by omega)]
theorem fills_loop {w0 : World} {b : Nat} {p : Option Addr} {pg pgs cl sz : Int} {n : Nat} {F : Nat → Prop} {K : Value → World → Prop} (hT : Tab w0) (hb0 : w0.heap.size ≤ b) (hn : 1 ≤ n ∧ n ≤ 16) (hK : ∀ w', Below w0.heap.size w0 w' → K (.bool true) w') :
    ∀ (d k : Nat) (w : World), k + d = n → Below w0.heap.size w0 w → SpanV w b p pg pgs cl sz n (ltS k) F → law10_SpanFills.l0 K (d + 1) p k w := by
  intro d
  induction d with
  | zero =>
    intro k w hk hb h
    rw [law10_SpanFills.l0_succ]
    obtain rfl : k = n := by omega
    refine span_Span_Slots_c h fun w1 b1 => ⟨_, rfl, cond_dec (fun h => by omega) (fun _ => ?_)⟩
    have b1' := hb.trans (b1.mono hb.size)
    have h1 := h.below b1
    refine span_Span_Take_c h1 (lt_within (Nat.le_refl _)) (hT.below b1' hT.lt) fun w2 h2 k2 => ⟨_, _, rfl, ?_⟩
    have b2' := b1'.trans (h1.under hb0 b1'.size k2)
    have e1 : takeV (ltS k) k = (0, false) := by unfold takeV; rw [free_full]; rfl
    have e2 : takeS (ltS k) k = ltS k := by unfold takeS; rw [free_full]; rfl
    rw [e2] at h2
    rw [e1]
    refine condP_f (condP_f (span_Span_Slots_c h2 fun w3 b3 => ⟨_, rfl, ?_⟩))
    have b3' := b2'.trans (b3.mono b2'.size)
    have h3 := h2.below b3
    have ek : IntKind.wrap .i64 ((k : Int) - 1) = ((k - 1 : Nat) : Int) := by rw [wrap64_in (by omega) (by omega)]; omega
    rw [ek]
    refine span_Span_Give_c h3 (lt_within (Nat.le_refl _)) ⟨by omega, by omega⟩ fun w4 h4 k4 => ⟨_, rfl, ?_⟩
    have b4' := b3'.trans (h3.under hb0 b3'.size k4)
    have c1 : canPut (ltS k) k ((k - 1 : Nat) : Int) false = true := by unfold canPut ltS; rw [Int.toNat_natCast, decide_eq_true (by omega), decide_eq_true (by omega), decide_eq_true (by omega)]; rfl
    have e4 : putS (ltS k) k ((k - 1 : Nat) : Int) false = ltS (k - 1) := by
      unfold putS
      rw [if_pos c1, Int.toNat_natCast]
      funext j
      unfold upd ltS
      by_cases hj : j = k - 1
      · rw [if_pos hj, decide_eq_false (by omega)]
      · rw [if_neg hj]; exact decide_eq_decide.2 (by omega)
    rw [e4] at h4
    rw [c1]
    refine condP_nt (span_Span_Slots_c h4 fun w5 b5 => ⟨_, rfl, ?_⟩)
    have b5' := b4'.trans (b5.mono b4'.size)
    have h5 := h4.below b5
    rw [ek]
    refine span_Span_Give_c h5 (lt_within (by omega)) ⟨by omega, by omega⟩ fun w6 h6 k6 => ⟨_, rfl, ?_⟩
    have b6' := b5'.trans (h5.under hb0 b5'.size k6)
    have c2 : canPut (ltS (k - 1)) k ((k - 1 : Nat) : Int) false = false := by unfold canPut ltS; rw [Int.toNat_natCast, decide_eq_true (by omega), decide_eq_true (by omega), decide_eq_false (by omega)]; rfl
    have e6 : putS (ltS (k - 1)) k ((k - 1 : Nat) : Int) false = ltS (k - 1) := by unfold putS; rw [c2]; rfl
    rw [e6] at h6
    rw [c2]
    refine condP_f (span_Span_Take_c h6 (lt_within (by omega)) (hT.below b6' hT.lt) fun w7 h7 k7 => ⟨_, _, rfl, ?_⟩)
    have b7' := b6'.trans (h6.under hb0 b6'.size k7)
    rw [(take_lt (show k - 1 < k by omega)).2]
    refine condP_t (span_Span_Slots_c h7 fun w8 b8 => ⟨_, rfl, ?_⟩)
    rw [ek, beq_self_eq_true]
    exact hK w8 (b7'.trans (b8.mono b7'.size))
  | succ d ih =>
    intro k w hk hb h
    rw [law10_SpanFills.l0_succ]
    refine span_Span_Slots_c h fun w1 b1 => ⟨_, rfl, cond_dec (fun _ => ?_) (fun h => absurd h (by omega))⟩
    have b1' := hb.trans (b1.mono hb.size)
    have h1 := h.below b1
    refine span_Span_Take_c h1 (lt_within (by omega)) (hT.below b1' hT.lt) fun w2 h2 k2 => ⟨_, _, rfl, ?_⟩
    have b2' := b1'.trans (h1.under hb0 b1'.size k2)
    obtain ⟨e1, e2⟩ := take_lt (show k < n by omega)
    rw [e1] at h2
    rw [e2]
    refine condP_f (cond_ne (fun h => absurd rfl h) (fun _ => ?_))
    refine span_Span_Live_c h2 (lt_within (by omega)) fun w3 b3 => ⟨_, rfl, ?_⟩
    have b3' := b2'.trans (b3.mono b2'.size)
    rw [cnt_lt (by omega), cst k (by omega)]
    refine cond_ne (fun h => absurd rfl h) (fun _ => ?_)
    have h3 := h2.below b3
    refine span_Span_Has_c h3 (lt_within (by omega)) fun w4 b4 => ⟨_, rfl, ?_⟩
    have b4' := b3'.trans (b4.mono b3'.size)
    have eh : hasV (ltS (k + 1)) (k : Int) = true := by unfold hasV ltS; rw [Int.toNat_natCast, decide_eq_true (by omega), decide_eq_true (by omega)]; rfl
    rw [eh]
    show law10_SpanFills.l0 K (d + 1) p (IntKind.wrap .i64 ((k : Int) + 1)) w4
    rw [cst k (by omega)]
    exact ih (k + 1) w4 (by omega) b4' (h3.below b4)
theorem law_SpanFills (w : World) (hT : Tab w) (pg : Int) (hpg : (Lit.int .i64 pg).wf = true) (cl : Int) (hcl : (Lit.int .i64 cl).wf = true) (size : Int) (hsize : (Lit.int .i64 size).wf = true) :
    CallsE Pg law10_SpanFills.N #[.int .i64 pg, .int .i64 cl, .int .i64 size] w (fun v w' => v = .bool true ∧ Below w.heap.size w w') := by
  refine law10_SpanFills.ok (law10_alive_c hT fun w1 b1 => ⟨_, rfl, condP_nt ?_⟩)
  refine span_New_c (wf_i64 hpg) (wf_i64 hcl) (wf_i64 hsize) (fun w2 he b2 => ⟨_, _, rfl, ?_⟩) (fun w2 p F he h b2 => ⟨_, _, rfl, ?_⟩)
  · exact cond_ne (fun _ => ⟨rfl, b1.trans (b2.mono b1.size)⟩) (fun h => absurd h he)
  · have b2' := b1.trans (b2.mono b1.size)
    obtain ⟨_, _, _, _, _, _, _, _, h9, _⟩ := new_ok he
    have hs := (clsSlots_nat cl).2
    have e0 : noneS = ltS 0 := funext fun j => by unfold noneS ltS; rw [decide_eq_false (by omega)]
    rw [e0] at h
    refine cond_ne (fun h => absurd rfl h) (fun _ => ⟨slotsN cl + 1, ?_⟩)
    exact fills_loop (w0 := w1) (hT.below b1 hT.lt) (Nat.le_refl _) ⟨h9, hs⟩ (fun w' hb => ⟨rfl, b1.trans (hb.mono b1.size)⟩) (slotsN cl) 0 w2 (by omega) b2 h

end Go.Proofs.YtmjbnhleakakaaaDoor.C
