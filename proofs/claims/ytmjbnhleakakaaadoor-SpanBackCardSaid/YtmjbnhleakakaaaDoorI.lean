/-
  Parts of the proofs of this seat: what the functions compute. No condition beyond what each theorem states.
-/
import Derived.Test.YtmjbnhleakakaaaDoorF
import Derived.Test.YtmjbnhleakakaaaDoorRK
import Derived.Test.YtmjbnhleakakaaaDoorA
import Derived.Test.YtmjbnhleakakaaaDoorB
import Derived.Test.YtmjbnhleakakaaaDoorC
import Derived.Test.YtmjbnhleakakaaaDoorD
import Derived.Test.YtmjbnhleakakaaaDoorG
import Derived.Test.YtmjbnhleakakaaaDoorH
set_option linter.unusedVariables false
set_option linter.unusedSimpArgs false
set_option maxRecDepth 100000
namespace Go.Proofs.YtmjbnhleakakaaaDoor.C
open Go Go.RowKit Go.Proofs.YtmjbnhleakakaaaDoor Go.Proofs.YtmjbnhleakakaaaDoor.Sh Go.Proofs.YtmjbnhleakakaaaDoor.F Go.Proofs.YtmjbnhleakakaaaDoor.R

/-! ### SpanMakes, SpanNil, SpanPlays -/
structure SCall where
  kind : Int
  i : Int
def SCall.cells (c : SCall) : List Value := [.int .i64 c.kind, .int .i64 c.i]
theorem SCall.cells_len (c : SCall) : c.cells.length = 2 := rfl
abbrev RdSCall := RdAgg [(1, RdInt .i64), (1, RdInt .i64)]
def SCallOk (c : SCall) : Prop := I64 c.kind ∧ I64 c.i
theorem scall_of {w : World} {cs : List Value} (h : RdSCall w cs) : ∃ c : SCall, SCallOk c ∧ cs = c.cells := by
  obtain ⟨_, _, rfl, _, ⟨n0, rfl, h0⟩, _, _, rfl, _, ⟨n1, rfl, h1⟩, rfl⟩ := h
  exact ⟨⟨n0, n1⟩, ⟨wf_i64 h0, wf_i64 h1⟩, rfl⟩
theorem scall_at {w : World} {A : Option Addr} {l : List SCall} (h : Cs w A (l.flatMap SCall.cells)) {k : Nat} {r : SCall} (hk : l[k]? = some r) :
    ∃ a, A = some a ∧ w.cell? (a.add (k * 2)) = some (.int .i64 r.kind) ∧ w.cell? ((a.add (k * 2)).add 1) = some (.int .i64 r.i) := by
  obtain ⟨a, e, hc⟩ := h.row SCall.cells_len hk (by decide)
  exact ⟨a, e, hc 0 _ rfl, hc 1 _ rfl⟩
theorem ints_rows : ∀ {rows : List (List Value)} {w : World}, (∀ r ∈ rows, r.length = 1 ∧ RdInt .i64 w r) → ∃ l : List Int, (∀ x ∈ l, I64 x) ∧ rows.flatten = nums .i64 l ∧ rows.length = l.length
  | [], w, _ => ⟨[], fun x hx => (by cases hx), rfl, rfl⟩
  | r :: rows, w, h => by
    obtain ⟨l, h1, h2, h3⟩ := ints_rows (rows := rows) (w := w) (fun r' hr' => h r' (List.mem_cons_of_mem _ hr'))
    obtain ⟨_, n, rfl, hn⟩ := h r (by simp)
    refine ⟨n :: l, fun x hx => ?_, by rw [List.flatten_cons, h2]; rfl, by simp [h3]⟩
    rcases List.mem_cons.1 hx with rfl | hx
    · exact wf_i64 hn
    · exact h1 x hx
abbrev RdSpan := RdAgg [(1, RdInt .i64), (1, RdInt .i64), (1, RdInt .i64), (1, RdSlice 8 1 (RdInt .i64))]
theorem rdspan_of {w : World} {cs : List Value} (h : RdSpan w cs) : ∃ (pg cl size : Int) (A : Option Addr) (m c : Nat) (l : List Int), cs = [.int .i64 pg, .int .i64 cl, .int .i64 size, .slice A m c] ∧ I64 pg ∧ I64 cl ∧ I64 size ∧ Cs w A (nums .i64 l) ∧ m = l.length ∧ m * 8 ≤ 140737488351232 ∧ ∀ x ∈ l, I64 x := by
  obtain ⟨_, _, rfl, _, ⟨n0, rfl, h0⟩, _, _, rfl, _, ⟨n1, rfl, h1⟩, _, _, rfl, _, ⟨n2, rfl, h2⟩, _, _, rfl, _, ⟨A, m, c, rows, rfl, h3, h4, h5, h6, h7⟩, rfl⟩ := h
  obtain ⟨l, hi, he, hl⟩ := ints_rows h7
  exact ⟨n0, n1, n2, A, m, c, l, rfl, wf_i64 h0, wf_i64 h1, wf_i64 h2, by rw [he] at h6; exact h6, by omega, h4, hi⟩
theorem law_SpanMakes (w : World) (hT : Tab w) (pg : Int) (hpg : (Lit.int .i64 pg).wf = true) (cl : Int) (hcl : (Lit.int .i64 cl).wf = true) (size : Int) (hsize : (Lit.int .i64 size).wf = true) :
    CallsE Pg law10_SpanMakes.N #[.int .i64 pg, .int .i64 cl, .int .i64 size] w (fun v w' => v = .bool true ∧ Below w.heap.size w w') := by
  refine law10_SpanMakes.ok (law10_alive_c hT fun w1 b1 => ⟨_, rfl, condP_nt ?_⟩)
  refine span_New_c (wf_i64 hpg) (wf_i64 hcl) (wf_i64 hsize) (fun w2 he b2 => ⟨_, _, rfl, ?_⟩) (fun w2 p F he h b2 => ⟨_, _, rfl, ?_⟩)
  · have b2' := b1.trans (b2.mono b1.size)
    refine ref10_New_c (wf_i64 hpg) (wf_i64 hcl) (wf_i64 hsize) (fun _ => ⟨_, _, rfl, ?_⟩) (fun w3 q G he' _ _ => absurd he' he)
    refine cond_ne (fun h => absurd rfl h) (fun _ => ?_)
    exact cond_ne (fun _ => ⟨rfl, b2'⟩) (fun h => absurd h he)
  · have b2' := b1.trans (b2.mono b1.size)
    refine ref10_New_c (wf_i64 hpg) (wf_i64 hcl) (wf_i64 hsize) (fun he' => absurd he he') (fun w3 q G _ hr b3 => ⟨_, _, rfl, ?_⟩)
    have b3' := b2'.trans (b3.mono b2'.size)
    refine condP_f (condP_f ?_)
    have h3 := h.below b3
    obtain ⟨_, _, _, _, _, _, _, _, _, _, _, h0s⟩ := new_ok he
    have eds : dSize cl (spSize cl size) = size := by
      unfold dSize spSize
      by_cases h7 : cl = 7
      · rw [if_pos h7, if_pos h7]
      · rw [if_neg h7, h0s h7]
    have hn := (clsSlots_nat cl).2
    refine span_Span_Data_c h3 (hT.below b3' hT.lt) fun A4 m4 c4 w4 hm4 o4 b4 => ⟨_, _, _, _, _, _, rfl, ?_⟩
    have b4' := b3'.trans (b4.mono b3'.size)
    refine ref10_Span_Data_c (hr.below b4) fun A5 m5 c5 w5 hm5 o5 b5 => ⟨_, _, _, _, _, _, rfl, ?_⟩
    have b5' := b4'.trans (b5.mono b4'.size)
    rw [eds]
    have hml := @memL_le noneS 0 (slotsN cl)
    refine ref10_Same_c (Cs.ofOwn (own_below_kp o4 b5)) (Cs.ofOwn o5) hm4 hm5 (by omega) fun w6 b6 => ⟨_, rfl, condP_t ?_⟩
    have b6' := b5'.trans (b6.mono b5'.size)
    refine span_Span_Live_c (((h3.below b4).below b5).below b6) (fun _ _ => rfl) fun w7 b7 => ⟨_, rfl, ?_⟩
    rw [cnt_none noneS (slotsN cl) 0 (fun _ _ => rfl)]
    exact ⟨rfl, b6'.trans (b7.mono b6'.size)⟩
theorem law_SpanNil (w : World) (hT : Tab w) (i : Int) (hi : (Lit.int .i64 i).wf = true) : CallsE Pg law10_SpanNil.N #[.int .i64 i] w (fun v w' => v = .bool true ∧ Below w.heap.size w w') := by
  have slots : ∀ (w1 : World) (K : Value → World → Prop), K (.int .i64 0) w1 → CallsE Pg span_Span_Slots.N #[.pointer none] w1 K := fun w1 K h => span_Span_Slots.ok (condP_t h)
  refine law10_SpanNil.ok (span_Span_Take.ok (condP_t ⟨_, _, rfl, ?_⟩))
  have hat : ∀ K : Value → World → Prop, K (.tuple #[.int .i64 0, .bool false]) w → CallsE Pg span_Span_At.N #[.pointer none, .int .i64 i] w K := fun K h =>
    span_Span_At.ok (cond_dec (fun _ => h) (fun h0 => slots w _ ⟨_, rfl, cond_dec (fun _ => h) (fun h1 => absurd h1 (by omega))⟩))
  refine hat _ ⟨_, _, rfl, ?_⟩
  refine span_Span_Slot.ok (condP_t ⟨_, _, rfl, ?_⟩)
  refine law10_alive_c hT fun w1 b1 => ⟨_, rfl, condP_t ?_⟩
  refine span_Span_Page.ok (condP_t ⟨_, rfl, span_Span_Pages.ok (condP_t ⟨_, rfl, span_Span_Class.ok (condP_t ⟨_, rfl, span_Span_Size.ok (condP_t ⟨_, rfl, slots w1 _ ⟨_, rfl, span_Span_Live.ok (condP_t ⟨_, rfl, ?_⟩)⟩⟩)⟩)⟩)⟩)
  refine condP_t (condP_t (condP_t (condP_t ?_)))
  refine span_Span_Has.ok (condP_f ⟨_, rfl, condP_t ?_⟩)
  refine span_Span_Give.ok (condP_f ⟨_, rfl, condP_t ?_⟩)
  refine span_Span_Data.ok (wlet_intro fun w2 e2 => ?_)
  have b2 : Below w1.heap.size w1 w2 := by rw [e2]; exact (Below.refl _ _).alloc (Nat.le_refl _) _
  have hB2 : Blk w2 w1.heap.size 33 [.int .i64 0, .int .i64 0, .int .i64 0, .slice none 0 0] := by rw [e2]; exact Blk.new w1 _ _
  clear e2
  have b2' := b1.trans (b2.mono b1.size)
  refine condP_t (st4 hB2 fun w3 h3 k3 _ => ?_)
  have b3' := b2'.trans (k3.below b2'.size fun i hi e => by have := b1.size; omega)
  refine ⟨_, h3.cell' (j := 0) rfl, _, h3.cell' (j := 1) rfl, _, h3.cell' (j := 2) rfl, _, _, _, h3.cell' (j := 3) rfl, _, _, _, _, _, _, rfl, ?_⟩
  exact ref10_Same_c (l := []) (Cs.nil _ _) (Cs.nil _ _) rfl rfl (by decide) fun w4 b4 => ⟨_, rfl, rfl, b3'.trans (b4.mono b3'.size)⟩
def stepP (n : Nat) (S : Nat → Bool) (c : SCall) : Nat → Bool := if c.kind = 1 then takeS S n else if c.kind = 2 then putS S n c.i false else S
structure Duo (w : World) (b : Nat) (p q : Option Addr) (pg cl size : Int) (n : Nat) (S : Nat → Bool) : Prop where
  ex : ∃ F G : Nat → Prop, SpanV w b p pg (pagesOf cl size) cl (spSize cl size) n S F ∧ Ref10V w b q pg cl size n S G ∧ ∀ i, F i → ¬ G i
  within : Within S n
section
variable {w w0 : World} {b : Nat} {p q : Option Addr} {pg cl size : Int} {n : Nat} {S : Nat → Bool} {K : Value → World → Prop}
theorem law10_do_c {c : SCall} (h : Duo w b p q pg cl size n S) (hT : Tab w) (hc : SCallOk c) (hpg : 0 ≤ pg ∧ pg ≤ 4096) (hsz : 1 ≤ spSize cl size ∧ spSize cl size ≤ 4096) (hb0 : w0.heap.size ≤ b) (hbw : Below w0.heap.size w0 w)
    (hK : ∀ w' S', Duo w' b p q pg cl size n S' → Below w0.heap.size w0 w' → K (.bool true) w') : CallsE Pg law10_do.N #[.pointer p, .pointer q, .agg #[.int .i64 c.kind, .int .i64 c.i]] w K := by
  refine law10_do.ok (wlet_intro fun w1 e1 => ?_)
  have b1 : Below w.heap.size w w1 := by rw [e1]; exact (Below.refl _ _).alloc (Nat.le_refl _) _
  have hB1 : Blk w1 w.heap.size 40 [.int .i64 c.kind, .int .i64 c.i] := by rw [e1]; exact Blk.new w _ _
  clear e1
  have hb1 := hbw.trans (b1.mono hbw.size)
  obtain ⟨⟨F, G, h1, h2, hd⟩, hS⟩ := h
  have hFl : ∀ i, F i → i ≠ w.heap.size := fun i hi => by have := (h1.lt hi).2; omega
  have hGl : ∀ i, G i → i ≠ w.heap.size := fun i hi => by have := (h2.lt hi).2; omega
  have h1 := h1.below b1
  have h2 := h2.below b1
  have hT := hT.below b1 hT.lt
  have stay : ∀ w', Below w1.heap.size w1 w' → K (.bool true) w' := fun w' hb' => hK w' S ⟨⟨F, G, h1.below hb', h2.below hb', hd⟩, hS⟩ (hb1.trans (hb'.mono hb1.size))
  have put : ∀ (T : Nat → Bool), Within T n → ∀ w2 w3, SpanV w2 b p pg (pagesOf cl size) cl (spSize cl size) n T F → Kp F w1 w2 → Ref10V w3 b q pg cl size n T G → Kp G w2 w3 → K (.bool true) w3 := fun T hw w2 w3 t1 k1 t2 k2 => by
    have hb2 := hb1.trans (h1.under hb0 hb1.size k1)
    have h2' := h2.kp k1 (fun i hi hp => hd i hp hi)
    exact hK w3 T ⟨⟨F, G, t1.kp k2 (fun i hi hp => hd i hi hp), t2, hd⟩, hw⟩ (hb2.trans (h2'.under hb0 hb2.size k2))
  have heldC : ∀ w' : World, w'.heap[w.heap.size]? = some (.cells ⟨[.int .i64 c.kind, .int .i64 c.i]⟩ 40 (0, 0)) → w'.cell? ((⟨w.heap.size, 0, none⟩ : Addr).add 1) = some (.int .i64 c.i) := fun w' h' => by
    rw [add_at]; exact Blk.cell' (show Blk w' w.heap.size 40 [.int .i64 c.kind, .int .i64 c.i] from h') (j := 1) rfl
  refine ⟨_, hB1.cell' (j := 0) rfl, ?_⟩
  refine cond_eq (fun e1 => ?_) (fun n1 => cond_eq (fun e2 => ?_) (fun n2 => cond_eq (fun e3 => ?_) (fun n3 => cond_eq (fun e4 => ?_) (fun n4 => cond_eq (fun e5 => ?_) (fun n5 => stay w1 (Below.refl _ _))))))
  · refine span_Span_Take_c h1 hS hT fun w2 t1 k1 => ⟨_, _, rfl, ?_⟩
    refine ref10_Span_Take_c (h2.kp k1 (fun i hi hp => hd i hp hi)) fun w3 t2 k2 => ⟨_, _, rfl, ?_⟩
    refine cond_eq (fun _ => ?_) (fun h => absurd rfl h)
    rw [beq_self_eq_true]
    exact put _ (takeS_within hS) w2 w3 t1 k1 t2 k2
  · refine ⟨fun H => H[w.heap.size]? = some (.cells ⟨[.int .i64 c.kind, .int .i64 c.i]⟩ 40 (0, 0)), hB1, _, heldC, _, heldC, ?_⟩
    refine span_Span_Give_c h1 hS hc.2 fun w2 t1 k1 => ⟨_, rfl, hB1.kp k1 (fun hp => hFl _ hp rfl), ?_⟩
    refine ref10_Span_Give_c (h2.kp k1 (fun i hi hp => hd i hp hi)) hS fun w3 t2 k2 => ⟨_, rfl, (hB1.kp k1 (fun hp => hFl _ hp rfl)).kp k2 (fun hp => hGl _ hp rfl), ?_⟩
    rw [beq_self_eq_true]
    exact put _ (putS_within hS) w2 w3 t1 k1 t2 k2
  · refine ⟨fun H => H[w.heap.size]? = some (.cells ⟨[.int .i64 c.kind, .int .i64 c.i]⟩ 40 (0, 0)), hB1, _, heldC, _, heldC, ?_⟩
    refine span_Span_Has_c h1 hS fun w2 b2 => ⟨_, rfl, hB1.kp (Kp.of_below b2) id, ?_⟩
    refine ref10_Span_Has_c (h2.below b2) hS ⟨_, rfl, hB1.kp (Kp.of_below b2) id, ?_⟩
    rw [beq_self_eq_true]
    exact stay w2 b2
  · refine ⟨_, hB1.cell' (j := 1) rfl, ?_⟩
    refine span_Span_At_c h1 hpg hsz fun w2 b2 => ⟨_, _, rfl, ?_⟩
    refine ⟨_, (hB1.kp (Kp.of_below b2) id).cell' (j := 1) rfl, ref10_Span_At_c (h2.below b2) hpg hsz ⟨_, _, rfl, ?_⟩⟩
    refine cond_eq (fun _ => ?_) (fun h => absurd rfl h)
    rw [beq_self_eq_true]
    exact stay w2 b2
  · refine ⟨_, hB1.cell' (j := 1) rfl, ?_⟩
    refine span_Span_Slot_c h1 hc.2 hpg hsz fun w2 b2 => ⟨_, _, rfl, ?_⟩
    refine ⟨_, (hB1.kp (Kp.of_below b2) id).cell' (j := 1) rfl, ref10_Span_Slot_c (h2.below b2) hpg hsz ⟨_, _, rfl, ?_⟩⟩
    refine cond_eq (fun _ => ?_) (fun h => absurd rfl h)
    rw [beq_self_eq_true]
    exact stay w2 b2
theorem splays_end (h : Duo w b p q pg cl size n S) (hT : Tab w) (hn : n = slotsN cl) (he : newErr pg cl size = 0) (hbw : Below w0.heap.size w0 w) (hK : ∀ w', Below w0.heap.size w0 w' → K (.bool true) w') : law10_SpanPlays.p11 K p q w := by
  obtain ⟨⟨F, G, h1, h2, hd⟩, hS⟩ := h
  obtain ⟨_, _, _, _, _, _, _, _, _, _, _, h0s⟩ := new_ok he
  have eds : dSize cl (spSize cl size) = size := by
    unfold dSize spSize
    by_cases h7 : cl = 7
    · rw [if_pos h7, if_pos h7]
    · rw [if_neg h7, h0s h7]
  have hs := (clsSlots_nat cl).2
  have hml := @memL_le S 0 n
  obtain ⟨t, g, rfl, r1, r2, r3, r4, r5, r6, rfl⟩ := id h2
  have cells : ∀ (j : Nat) (v : Value), ([.int .i64 pg, .int .i64 cl, .int .i64 size, .slice (some ⟨g, 0, none⟩) n n] : List Value)[j]? = some v → ∀ w' : World, w'.heap[t]? = some (.cells ⟨[.int .i64 pg, .int .i64 cl, .int .i64 size, .slice (some ⟨g, 0, none⟩) n n]⟩ Ty.ref10_Span (0, 0)) → w'.cell? ⟨t, j, none⟩ = some v := fun j v hv w' hh => Blk.cell' (show Blk w' t Ty.ref10_Span [.int .i64 pg, .int .i64 cl, .int .i64 size, .slice (some ⟨g, 0, none⟩) n n] from hh) hv
  have keep : ∀ w', Below w.heap.size w w' → w'.heap[t]? = some (.cells ⟨[.int .i64 pg, .int .i64 cl, .int .i64 size, .slice (some ⟨g, 0, none⟩) n n]⟩ Ty.ref10_Span (0, 0)) := fun w' hb' => r4.kp (Kp.of_below hb') id
  refine ⟨fun H => H[t]? = some (.cells ⟨[.int .i64 pg, .int .i64 cl, .int .i64 size, .slice (some ⟨g, 0, none⟩) n n]⟩ Ty.ref10_Span (0, 0)), r4, ?_⟩
  refine span_Span_Data_c h1 hT fun A4 m4 c4 w4 hm4 o4 b4 => ⟨_, _, _, _, _, _, rfl, keep _ b4, ?_⟩
  refine ref10_Span_Data_c (h2.below b4) fun A5 m5 c5 w5 hm5 o5 b5 => ⟨_, _, _, _, _, _, rfl, keep _ (b4.trans (b5.mono b4.size)), ?_⟩
  have b45 := b4.trans (b5.mono b4.size)
  rw [eds]
  refine ref10_Same_c (Cs.ofOwn (own_below_kp o4 b5)) (Cs.ofOwn o5) hm4 hm5 (by omega) fun w6 b6 => ⟨_, rfl, keep _ (b45.trans (b6.mono b45.size)), condP_t ?_⟩
  have b46 := b45.trans (b6.mono b45.size)
  have h6 := h1.below b46
  refine ⟨_, rfl, _, cells 0 _ rfl, span_Span_Page_c h6 ⟨_, rfl, keep _ b46, cond_eq (fun _ => ?_) (fun h => absurd rfl h)⟩⟩
  refine ⟨_, rfl, _, cells 1 _ rfl, span_Span_Class_c h6 ⟨_, rfl, keep _ b46, cond_eq (fun _ => ?_) (fun h => absurd rfl h)⟩⟩
  refine span_Span_Size_c h6 ⟨_, rfl, keep _ b46, ref10_Span_Size_c (h2.below b46) ⟨_, rfl, keep _ b46, cond_eq (fun _ => ?_) (fun h => absurd rfl h)⟩⟩
  refine ⟨_, rfl, _, _, _, cells 3 _ rfl, span_Span_Slots_c h6 fun w7 b7 => ⟨_, rfl, keep _ (b46.trans (b7.mono b46.size)), cond_eq (fun _ => ?_) (fun h => absurd rfl h)⟩⟩
  have b47 := b46.trans (b7.mono b46.size)
  refine ⟨_, rfl, _, rfl, _, cells 1 _ rfl, _, cells 2 _ rfl, span_Span_Pages_c (h1.below b47) ⟨_, rfl, keep _ b47, ref10_Pages_c ⟨_, rfl, keep _ b47, ?_⟩⟩⟩
  rw [beq_self_eq_true]
  exact hK w7 (hbw.trans (b47.mono hbw.size))
theorem splays_loop {A : Option Addr} {m c : Nat} {cl' : List SCall} (hT : Tab w0) (hx : Cs w0 A (cl'.flatMap SCall.cells)) (hm : m = cl'.length) (hok : ∀ x ∈ cl', SCallOk x) (hb0 : w0.heap.size ≤ b) (hn : n = slotsN cl) (he : newErr pg cl size = 0) (hK : ∀ w', Below w0.heap.size w0 w' → K (.bool true) w') :
    ∀ (d k : Nat) (w : World) (S : Nat → Bool), k + d = 200 → Below w0.heap.size w0 w → Duo w b p q pg cl size n S → law10_SpanPlays.l0 K (d + 1) A m c p q k w := by
  obtain ⟨_, _, hp0, hp1, hp2, hp3, hs1, hs2, _, _⟩ := new_ok he
  have hs := (clsSlots_nat cl).2
  intro d
  induction d with
  | zero =>
    intro k w S hk hb h
    rw [law10_SpanPlays.l0_succ]
    refine cond_dec (fun _ => ?_) (fun _ => splays_end h (hT.below hb hT.lt) hn he hb hK)
    rw [decide_eq_false (by omega)]
    exact splays_end h (hT.below hb hT.lt) hn he hb hK
  | succ d ih =>
    intro k w S hk hb h
    rw [law10_SpanPlays.l0_succ]
    refine cond_dec (fun hlt => ?_) (fun _ => splays_end h (hT.below hb hT.lt) hn he hb hK)
    rw [decide_eq_true (by omega)]
    have hlen : k < cl'.length := by omega
    have hxk : cl'[k]? = some cl'[k] := List.getElem?_eq_getElem hlen
    have hc := hok _ (List.getElem_mem hlen)
    obtain ⟨a, rfl, c0, c1⟩ := scall_at (hx.below hb) hxk
    refine ⟨⟨by omega, by omega⟩, a, rfl, _, c0, _, c1, ?_⟩
    refine law10_do_c (w0 := w0) h (hT.below hb hT.lt) hc ⟨hp0, by omega⟩ ⟨hs1, hs2⟩ hb0 hb fun w1 S' h' hb1 => ⟨_, rfl, condP_f ?_⟩
    have hd' := h'
    obtain ⟨⟨F, G, h1, h2, hd⟩, hS⟩ := h'
    refine span_Span_Live_c h1 hS fun w2 b2 => ⟨_, rfl, ?_⟩
    have hb2 := hb1.trans (b2.mono hb1.size)
    refine ref10_Span_Live_c (h2.below b2) fun A3 m3 c3 w3 hm3 o3 b3 => ⟨_, _, _, rfl, ?_⟩
    have hb3 := hb2.trans (b3.mono hb2.size)
    have e : (((cnt S' 0 n : Nat) : Int) != (m3 : Int)) = false := by rw [hm3, memL_len]; simp
    rw [e]
    show law10_SpanPlays.l0 K (d + 1) (some a) m c p q (IntKind.wrap .i64 ((k : Int) + 1)) w3
    rw [cst k (by omega)]
    exact ih (k + 1) w3 S' (by omega) hb3 ⟨⟨F, G, (h1.below b2).below b3, (h2.below b2).below b3, hd⟩, hS⟩
end
theorem law_SpanPlays (w : World) (hT : Tab w) (cs0 : List Value) (h0 : RdSpan w cs0) (A : Option Addr) (m c : Nat) (hz : RdSlice 16 2 RdSCall w [.slice A m c]) : CallsE Pg law10_SpanPlays.N #[.agg ⟨cs0⟩, .slice A m c] w (fun v w' => v = .bool true ∧ Below w.heap.size w w') := by
  obtain ⟨pg, cl, size, A0, m0, c0, l, rfl, ipg, icl, isz, hy, hm0, hml, hi⟩ := rdspan_of h0
  obtain ⟨cl', hx, hm, hsb, hok⟩ := list_of (f := SCall.cells) hz (fun cs h => scall_of h)
  refine law10_SpanPlays.ok (q0_0 := pg) (q0_1 := cl) (q0_2 := size) (q0_3A := A0) (q0_3n := m0) (q0_3c := c0) (wlet_intro fun w1 e1 => ?_)
  have b1 : Below w.heap.size w w1 := by rw [e1]; exact (Below.refl _ _).alloc (Nat.le_refl _) _
  have hB1 : Blk w1 w.heap.size 33 [.int .i64 pg, .int .i64 cl, .int .i64 size, .slice A0 m0 c0] := by rw [e1]; exact Blk.new w _ _
  clear e1
  refine law10_alive_c (hT.below b1 hT.lt) fun w2 b2 => ⟨_, rfl, condP_nt ?_⟩
  have b2' := b1.trans (b2.mono b1.size)
  have hB2 := hB1.kp (Kp.of_below b2) id
  refine ⟨_, hB2.cell' (j := 0) rfl, _, hB2.cell' (j := 1) rfl, _, hB2.cell' (j := 2) rfl, _, _, _, hB2.cell' (j := 3) rfl, ?_⟩
  refine span_Of_c ipg icl isz (hy.below b2') hm0 (by omega) hi (fun w3 he b3 => ⟨_, _, rfl, ?_⟩) (fun w3 p F he hne hr h3 hS b3 => ⟨_, _, rfl, ?_⟩)
  · have b3' := b2'.trans (b3.mono b2'.size)
    have hB3 := hB2.kp (Kp.of_below b3) id
    refine ⟨_, hB3.cell' (j := 0) rfl, _, hB3.cell' (j := 1) rfl, _, hB3.cell' (j := 2) rfl, _, _, _, hB3.cell' (j := 3) rfl, ?_⟩
    refine ref10_Of_c ipg icl isz (hy.below b3') hm0 (by omega) hi (fun w4 _ b4 => ⟨_, _, rfl, ?_⟩) (fun w4 q G he' _ _ => absurd he' he)
    refine cond_ne (fun h => absurd rfl h) (fun _ => cond_ne (fun _ => ⟨rfl, b3'.trans (b4.mono b3'.size)⟩) (fun h => absurd h he))
  · have b3' := b2'.trans (b3.mono b2'.size)
    have hB3 := hB2.kp (Kp.of_below b3) id
    refine ⟨_, hB3.cell' (j := 0) rfl, _, hB3.cell' (j := 1) rfl, _, hB3.cell' (j := 2) rfl, _, _, _, hB3.cell' (j := 3) rfl, ?_⟩
    refine ref10_Of_c ipg icl isz (hy.below b3') hm0 (by omega) hi (fun w4 he' _ => absurd he he') (fun w4 q G _ h4 b4 => ⟨_, _, rfl, ?_⟩)
    have b4' := b3'.trans (b4.mono b3'.size)
    refine condP_f (condP_f ⟨201, ?_⟩)
    exact splays_loop (w0 := w) hT hx hm hok (Nat.le_refl _) rfl hne (fun w' hb => ⟨rfl, hb⟩) 200 0 w4 _ (by omega) b4' ⟨⟨F, G, (h3.below b4).base b2'.size, h4.base b3'.size, fun i hi hg => by have := (h3.lt hi).2; have := (h4.lt hg).1; omega⟩, hS⟩

end Go.Proofs.YtmjbnhleakakaaaDoor.C
