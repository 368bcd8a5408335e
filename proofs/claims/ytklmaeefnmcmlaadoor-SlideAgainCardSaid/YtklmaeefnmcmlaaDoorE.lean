/-
  Parts of the proofs of this seat: what the functions compute. No condition beyond what each theorem states.
-/
import Derived.Test.YtklmaeefnmcmlaaDoorF
import Derived.Test.YtklmaeefnmcmlaaDoorRK
import Derived.Test.YtklmaeefnmcmlaaDoorA
import Derived.Test.YtklmaeefnmcmlaaDoorB
import Derived.Test.YtklmaeefnmcmlaaDoorC
import Derived.Test.YtklmaeefnmcmlaaDoorD
set_option linter.unusedVariables false
set_option linter.unusedSimpArgs false
set_option maxRecDepth 100000
namespace Go.Proofs.YtklmaeefnmcmlaaDoor.C
open Go Go.RowKit Go.Proofs.YtklmaeefnmcmlaaDoor Go.Proofs.YtklmaeefnmcmlaaDoor.Sh Go.Proofs.YtklmaeefnmcmlaaDoor.F Go.Proofs.YtklmaeefnmcmlaaDoor.R

/-! no place is in -/
theorem ins_none (n : Nat) : ins noneS n = List.replicate n false := by
  apply List.ext_getElem?
  intro k
  by_cases h : k < n
  · rw [ins_at h, List.getElem?_replicate, if_pos h]; rfl
  · rw [List.getElem?_eq_none (by rw [ins_len]; omega), List.getElem?_eq_none (by simp; omega)]
/-! ### spans: their data -/
theorem st4 {w : World} {g : Nat} {e : TypeId} {a0 a1 a2 a3 v0 v1 v2 v3 : Value} {Q : World → Prop} (h : Blk w g e [a0, a1, a2, a3]) (hQ : ∀ w', Blk w' g e [v0, v1, v2, v3] → Kp (· = g) w w' → w'.heap.size = w.heap.size → Q w') :
    canStore w ⟨g, 0, none⟩ ∧ wlet (w.setCell ⟨g, 0, none⟩ v0) fun w1 => canStore w1 ⟨g, 1, none⟩ ∧ wlet (w1.setCell ⟨g, 1, none⟩ v1) fun w2 => canStore w2 ⟨g, 2, none⟩ ∧ wlet (w2.setCell ⟨g, 2, none⟩ v2) fun w3 => canStore w3 ⟨g, 3, none⟩ ∧ wlet (w3.setCell ⟨g, 3, none⟩ v3) Q := by
  have e : ∀ k, (⟨g, k, none⟩ : Addr) = (⟨g, 0, none⟩ : Addr).add k := fun k => by rw [add_at, Nat.zero_add]
  rw [e 0, e 1, e 2, e 3]
  refine blk_set1 (k := 0) h (by simp) fun w1 h1 k1 s1 => ?_
  refine blk_set1 (k := 1) h1 (by simp) fun w2 h2 k2 s2 => ?_
  refine blk_set1 (k := 2) h2 (by simp) fun w3 h3 k3 s3 => ?_
  refine blk_set1 (k := 3) h3 (by simp) fun w4 h4 k4 s4 => ?_
  exact hQ w4 h4 (((k1.trans k2 (fun _ _ h => h) (fun _ _ h => h)).trans k3 (fun _ _ h => h) (fun _ _ h => h)).trans k4 (fun _ _ h => h) (fun _ _ h => h)) (by rw [s4, s3, s2, s1])
theorem own_base {w : World} {base b' : Nat} {e : TypeId} {size n : Nat} {v : Value} {xs : List Value} (h : w.ownsRow base e size v n xs) (hb : b' ≤ base) : w.ownsRow b' e size v n xs := by
  refine ⟨h.1, ?_⟩
  rcases h.2 with h2 | ⟨g, cap, cur, h2, hbg, hh, h3, h4, h5, h6⟩
  · exact .inl h2
  · exact .inr ⟨g, cap, cur, h2, Nat.le_trans hb hbg, hh, h3, h4, h5, h6⟩
section
variable {w w0 : World} {b : Nat} {p : Option Addr} {pg pgs cl sz by' : Int} {n : Nat} {S : Nat → Bool} {F : Nat → Prop} {K : Value → World → Prop}
def dSize (cl sz : Int) : Int := if cl = 7 then sz else 0
/-- What is made of a span, once its list is there. -/
theorem data_tail {g2 g3 m c t : Nat} {q A : Option Addr} {G : Nat → Prop} {vs0 : List Value} (hb : Below w0.heap.size w0 w) (ht : Blk w t Ty.span_Span [.pointer q, .int .i64 pg, .int .i64 pgs, .int .i64 cl, .int .i64 sz])
    (h2 : Blk w g2 Ty.api_Span [.int .i64 0, .int .i64 0, .int .i64 0, .slice none 0 0]) (h3 : Blk w g3 Ty.api_Span [.int .i64 0, .int .i64 0, .int .i64 0, .slice none 0 0]) (h23 : g2 ≠ g3) (b2 : w0.heap.size ≤ g2) (b3 : w0.heap.size ≤ g3) (ht0 : t < w0.heap.size)
    (ho : w.ownsRow w0.heap.size Ty.int 1 (.slice A m c) m vs0) (ho2 : ∀ g, (Value.slice A m c).ownBlock = some g → g ≠ g2 ∧ g ≠ g3)
    (hK : ∀ w', w'.ownsRow w0.heap.size Ty.int 1 (.slice A m c) m vs0 → Below w0.heap.size w0 w' → K (.agg #[.int .i64 pg, .int .i64 cl, .int .i64 (dSize cl sz), .slice A m c]) w') :
    canStore w ⟨g3, 0, none⟩ ∧ wlet (w.setCell ⟨g3, 0, none⟩ (.int .i64 pg)) fun w1 => canStore w1 ⟨g3, 1, none⟩ ∧ wlet (w1.setCell ⟨g3, 1, none⟩ (.int .i64 cl)) fun w2 => canStore w2 ⟨g3, 2, none⟩ ∧ wlet (w2.setCell ⟨g3, 2, none⟩ (.int .i64 0)) fun w3 => canStore w3 ⟨g3, 3, none⟩ ∧ wlet (w3.setCell ⟨g3, 3, none⟩ (.slice A m c)) fun w4 => span_Span_Data.p2 K (some ⟨t, 0, none⟩) ⟨g2, 0, none⟩ ⟨g3, 0, none⟩ w4 := by
  refine st4 h3 fun w1 h31 k1 _ => ?_
  have bw1 := hb.trans (k1.below hb.size fun i hi e => by omega)
  have ht1 := ht.kp k1 (by omega)
  have h21 := h2.kp k1 h23
  have ho1 := own_kp ho k1 (fun g hg e => (ho2 g hg).2 e)
  have last : ∀ w3, Below w0.heap.size w0 w3 → Blk w3 g3 Ty.api_Span [.int .i64 pg, .int .i64 cl, .int .i64 (dSize cl sz), .slice A m c] → Blk w3 g2 Ty.api_Span [.int .i64 0, .int .i64 0, .int .i64 0, .slice none 0 0] → w3.ownsRow w0.heap.size Ty.int 1 (.slice A m c) m vs0 → span_Span_Data.p3 K ⟨g2, 0, none⟩ ⟨g3, 0, none⟩ w3 := fun w3 bw3 h33 h23' ho3 => by
    refine ⟨_, h33.cell' (j := 0) rfl, _, h33.cell' (j := 1) rfl, _, h33.cell' (j := 2) rfl, _, _, _, h33.cell' (j := 3) rfl, ?_⟩
    refine st4 h23' fun w4 h24 k4 _ => ?_
    refine ⟨_, h24.cell' (j := 0) rfl, _, h24.cell' (j := 1) rfl, _, h24.cell' (j := 2) rfl, _, _, _, h24.cell' (j := 3) rfl, ?_⟩
    exact hK w4 (own_kp ho3 k4 (fun g hg e => (ho2 g hg).1 e)) (bw3.trans (k4.below bw3.size fun i hi e => by omega))
  refine ⟨_, rfl, _, ht1.cell' (j := 3) rfl, cond_eq (fun h7 => ?_) (fun h7 => ?_)⟩
  · refine ⟨_, rfl, _, ht1.cell' (j := 4) rfl, ?_⟩
    refine blk_set1 (k := 2) h31 (by simp) fun w2 h32 k2 _ => ?_
    have e : dSize cl sz = sz := by unfold dSize; rw [if_pos h7]
    refine last w2 (bw1.trans (k2.below bw1.size fun i hi e => by omega)) ?_ (h21.kp k2 h23) (own_kp ho1 k2 (fun g hg e => (ho2 g hg).2 e))
    rw [e]; exact h32
  · have e : dSize cl sz = 0 := by unfold dSize; rw [if_neg h7]
    refine last w1 bw1 ?_ h21 ho1
    rw [e]; exact h31
theorem span_Span_Data_c (h : SpanV w b p pg pgs cl sz n S F) (hT : Tab w)
    (hK : ∀ A m c w', m = (memL S 0 n).length → w'.ownsRow w.heap.size Ty.int 1 (.slice A m c) m (nums .i64 (memL S 0 n)) → Below w.heap.size w w' → K (.agg #[.int .i64 pg, .int .i64 cl, .int .i64 (dSize cl sz), .slice A m c]) w') : CallsE Pg span_Span_Data.N #[.pointer p] w K := by
  obtain ⟨t, q, G, rfl, h1, h2, h3, h4, rfl⟩ := h
  have htl := h2.lt
  refine span_Span_Data.ok (wlet_intro fun w1 e1 => ?_)
  have b1 : Below w.heap.size w w1 := by rw [e1]; exact (Below.refl _ _).alloc (Nat.le_refl _) _
  have hB1 : Blk w1 w.heap.size Ty.api_Span [.int .i64 0, .int .i64 0, .int .i64 0, .slice none 0 0] := by rw [e1]; exact Blk.new w _ _
  clear e1
  have hl1 := hB1.lt
  have t1 := h2.kp (Kp.of_below b1) id
  have s1 := h3.below b1
  have T1 := hT.below b1 hT.lt
  have cells : ∀ (j : Nat) (v : Value), ([.pointer q, .int .i64 pg, .int .i64 pgs, .int .i64 cl, .int .i64 sz] : List Value)[j]? = some v → ∀ w' : World, w'.heap[t]? = some (.cells ⟨[.pointer q, .int .i64 pg, .int .i64 pgs, .int .i64 cl, .int .i64 sz]⟩ Ty.span_Span (0, 0)) → w'.cell? ⟨t, j, none⟩ = some v := fun j v hv w' hh => Blk.cell' (show Blk w' t Ty.span_Span [.pointer q, .int .i64 pg, .int .i64 pgs, .int .i64 cl, .int .i64 sz] from hh) hv
  refine condP_f ⟨fun H => H[t]? = some (.cells ⟨[.pointer q, .int .i64 pg, .int .i64 pgs, .int .i64 cl, .int .i64 sz]⟩ Ty.span_Span (0, 0)), t1, _, rfl, _, rfl, _, rfl, _, cells 1 _ rfl, _, cells 3 _ rfl, _, cells 0 _ rfl, ?_, ?_⟩
  · refine set_Set_List_c s1 T1 fun A m c w2 hm ho b2 => ⟨_, _, _, rfl, t1.kp (Kp.of_below b2) id, ?_⟩
    have b2' := b1.trans (b2.mono b1.size)
    have fin : wlet (w2.alloc (.cells #[.int .i64 0, .int .i64 0, .int .i64 0, .slice none 0 0] Ty.api_Span)) fun w3 => Blk w3 t Ty.span_Span [.pointer q, .int .i64 pg, .int .i64 pgs, .int .i64 cl, .int .i64 sz] ∧ (canStore w3 ⟨w2.heap.size, 0, none⟩ ∧ wlet (w3.setCell ⟨w2.heap.size, 0, none⟩ (.int .i64 pg)) fun w4 => canStore w4 ⟨w2.heap.size, 1, none⟩ ∧ wlet (w4.setCell ⟨w2.heap.size, 1, none⟩ (.int .i64 cl)) fun w5 => canStore w5 ⟨w2.heap.size, 2, none⟩ ∧ wlet (w5.setCell ⟨w2.heap.size, 2, none⟩ (.int .i64 0)) fun w6 => canStore w6 ⟨w2.heap.size, 3, none⟩ ∧ wlet (w6.setCell ⟨w2.heap.size, 3, none⟩ (.slice A m c)) fun w7 => span_Span_Data.p2 K (some ⟨t, 0, none⟩) ⟨w.heap.size, 0, none⟩ ⟨w2.heap.size, 0, none⟩ w7) := by
      refine wlet_intro fun w3 e3 => ?_
      have b3 : Below w2.heap.size w2 w3 := by rw [e3]; exact (Below.refl _ _).alloc (Nat.le_refl _) _
      have hB3 : Blk w3 w2.heap.size Ty.api_Span [.int .i64 0, .int .i64 0, .int .i64 0, .slice none 0 0] := by rw [e3]; exact Blk.new w2 _ _
      clear e3
      have t3 := (t1.kp (Kp.of_below b2) id).kp (Kp.of_below b3) id
      refine ⟨t3, data_tail (w0 := w) (G := G) (b2'.trans (b3.mono b2'.size)) t3 ((hB1.kp (Kp.of_below b2) id).kp (Kp.of_below b3) id) hB3 (by have := b2.size; omega) (Nat.le_refl _) b2'.size htl (own_base (own_below_kp ho b3) b1.size) (fun g hg => ?_) (fun w' h1 h2 => hK A m c w' hm h1 h2)⟩
      have := own_lt ho hg
      omega
    exact ⟨⟨t1.kp (Kp.of_below b2) id, fin⟩, (show _ ∧ _ from fin).1, (show _ ∧ _ from fin).1, (show _ ∧ _ from fin).2⟩
  · refine wlet_intro fun w3 e3 => ?_
    have b3 : Below w1.heap.size w1 w3 := by rw [e3]; exact (Below.refl _ _).alloc (Nat.le_refl _) _
    have hB3 : Blk w3 w1.heap.size Ty.api_Span [.int .i64 0, .int .i64 0, .int .i64 0, .slice none 0 0] := by rw [e3]; exact Blk.new w1 _ _
    clear e3
    have b3' := b1.trans (b3.mono b1.size)
    have t3 := t1.kp (Kp.of_below b3) id
    have hl3 := hB3.lt
    refine ⟨t3, set_Set_List_c (s1.below b3) (T1.below b3 T1.lt) fun A m c w2 hm ho b2 => ⟨_, _, _, rfl, t3.kp (Kp.of_below b2) id, t3.kp (Kp.of_below b2) id, ?_⟩⟩
    refine data_tail (w0 := w) (G := G) (b3'.trans (b2.mono b3'.size)) (t3.kp (Kp.of_below b2) id) ((hB1.kp (Kp.of_below b3) id).kp (Kp.of_below b2) id) (hB3.kp (Kp.of_below b2) id) (by omega) (Nat.le_refl _) b1.size htl (own_base ho b3'.size) (fun g hg => ?_) (fun w' h1 h2 => hK A m c w' hm h1 h2)
    have := own_lt ho hg
    omega
end
/-! ### spans: the document's -/
section
variable {w w0 : World} {b : Nat} {p : Option Addr} {pg pgs cl sz by' : Int} {n : Nat} {S : Nat → Bool} {F : Nat → Prop} {K : Value → World → Prop}
def Ref10V (w : World) (b : Nat) (p : Option Addr) (pg cl by' : Int) (n : Nat) (S : Nat → Bool) (F : Nat → Prop) : Prop :=
  ∃ t g, p = some ⟨t, 0, none⟩ ∧ b ≤ t ∧ b ≤ g ∧ g ≠ t ∧ Blk w t Ty.ref10_Span [.int .i64 pg, .int .i64 cl, .int .i64 by', .slice (some ⟨g, 0, none⟩) n n] ∧ Blk w g Ty.bool (bools (ins S n)) ∧ n ≤ 16 ∧ F = fun i => i = t ∨ i = g
theorem Ref10V.kp {w' : World} {X : Nat → Prop} (h : Ref10V w b p pg cl by' n S F) (k : Kp X w w') (hd : ∀ i, F i → ¬ X i) : Ref10V w' b p pg cl by' n S F := by
  obtain ⟨t, g, rfl, h1, h2, h3, h4, h5, h6, rfl⟩ := h
  exact ⟨t, g, rfl, h1, h2, h3, h4.kp k (hd t (.inl rfl)), h5.kp k (hd g (.inr rfl)), h6, rfl⟩
theorem Ref10V.lt (h : Ref10V w b p pg cl by' n S F) {i : Nat} (hi : F i) : b ≤ i ∧ i < w.heap.size := by
  obtain ⟨t, g, rfl, h1, h2, h3, h4, h5, h6, rfl⟩ := h
  rcases hi with rfl | rfl
  · exact ⟨h1, h4.lt⟩
  · exact ⟨h2, h5.lt⟩
theorem Ref10V.below {w' : World} (h : Ref10V w b p pg cl by' n S F) (k : Below w.heap.size w w') : Ref10V w' b p pg cl by' n S F := h.kp (Kp.of_below k) (fun _ _ => id)
theorem Ref10V.base {b' : Nat} (h : Ref10V w b p pg cl by' n S F) (hb : b' ≤ b) : Ref10V w b' p pg cl by' n S F := by
  obtain ⟨t, g, rfl, h1, h2, h3, h4, h5, h6, rfl⟩ := h
  exact ⟨t, g, rfl, by omega, by omega, h3, h4, h5, h6, rfl⟩
theorem Ref10V.under {w' : World} {b0 : Nat} (h : Ref10V w b p pg cl by' n S F) (hb : b0 ≤ b) (hw : b0 ≤ w.heap.size) (k : Kp F w w') : Below b0 w w' :=
  k.below hw fun i hi hs => by have := (h.lt hs).1; omega
theorem ref10_Pages_c {size : Int} (hK : K (.int .i64 (pagesOf cl size)) w) : CallsE Pg ref10_Pages.N #[.int .i64 cl, .int .i64 size] w K := by
  unfold pagesOf at hK
  refine ref10_Pages.ok (cond_eq (fun h => ?_) (fun h => ?_))
  · rw [if_pos h] at hK
    exact ref06_Pages_c ⟨_, rfl, hK⟩
  · rw [if_neg h] at hK
    exact hK
theorem ref10_New_c {size : Int} (hpg : I64 pg) (hcl : I64 cl) (hsize : I64 size)
    (hE : newErr pg cl size ≠ 0 → K (.tuple #[.pointer none, .int .i64 (newErr pg cl size)]) w)
    (hK : ∀ w' p F, newErr pg cl size = 0 → Ref10V w' w.heap.size p pg cl size (slotsN cl) noneS F → Below w.heap.size w w' → K (.tuple #[.pointer p, .int .i64 0]) w') : CallsE Pg ref10_New.N #[.int .i64 pg, .int .i64 cl, .int .i64 size] w K := by
  refine ref10_New.ok ?_
  have e11 : (cl < 0 ∨ 7 < cl) → K (.tuple #[.pointer none, .int .i64 11]) w := fun h => by
    have e : newErr pg cl size = 11 := by unfold newErr; rw [if_pos h]
    rw [e] at hE
    exact hE (by decide)
  refine cond_dec (fun h => e11 (.inl h)) (fun h0 => ?_)
  show condP (decide (7 < cl)) _ _
  refine cond_dec (fun h => e11 (.inr h)) (fun h7 => ?_)
  have e2 : ((cl < 7 ∧ size ≠ 0) ∨ (cl = 7 ∧ clsOf size ≠ 7)) → K (.tuple #[.pointer none, .int .i64 2]) w := fun h => by
    have e : newErr pg cl size = 2 := by unfold newErr; rw [if_neg (by omega), if_pos h]
    rw [e] at hE
    exact hE (by decide)
  have rest : ¬ ((cl < 7 ∧ size ≠ 0) ∨ (cl = 7 ∧ clsOf size ≠ 7)) → ref10_New.p4 K pg cl size w := fun hn => by
    have hpr : 0 ≤ pagesOf cl size ∧ pagesOf cl size ≤ 16 := by
      unfold pagesOf
      split
      · exact clsPages_range size
      · omega
    have e10 : (pg < 0 ∨ 4096 - pagesOf cl size < pg) → K (.tuple #[.pointer none, .int .i64 10]) w := fun h => by
      have e : newErr pg cl size = 10 := by unfold newErr; rw [if_neg (by omega), if_neg hn, if_pos h]
      rw [e] at hE
      exact hE (by decide)
    refine cond_dec (fun h => e10 (.inl h)) (fun hp0 => ?_)
    refine ref10_Pages_c ⟨_, rfl, ?_⟩
    rw [wrap64_in (by omega) (by omega)]
    refine cond_dec (fun h => e10 (.inr h)) (fun hp1 => ?_)
    have e0 : newErr pg cl size = 0 := by unfold newErr; rw [if_neg (by omega), if_neg hn, if_neg (by omega)]
    obtain ⟨hs1, hs2⟩ := clsSlots_nat cl
    refine ref06_Slots_c ⟨_, rfl, ?_⟩
    rw [hs1, Int.toNat_natCast, made_bools]
    refine ⟨⟨by omega, by omega, by omega, by omega⟩, wlet_intro fun w1 h1 => wlet_intro fun w2 h2 => ?_⟩
    have hal : Below w.heap.size w w1 := by rw [h1]; exact (Below.refl _ _).alloc (Nat.le_refl _) _
    have hg : Blk w1 w.heap.size Ty.bool (bools (List.replicate (slotsN cl) false)) := by rw [h1]; exact Blk.new w _ _
    clear h1
    have hal2 : Below w1.heap.size w1 w2 := by rw [h2]; exact (Below.refl _ _).alloc (Nat.le_refl _) _
    have hB : Blk w2 w1.heap.size Ty.ref10_Span [.int .i64 pg, .int .i64 cl, .int .i64 size, .slice (some ⟨w.heap.size, 0, none⟩) (slotsN cl) (slotsN cl)] := by rw [h2]; exact Blk.new w1 _ _
    clear h2
    have hg2 := hg.kp (Kp.of_below hal2) id
    have hlt := hg.lt
    rw [← ins_none] at hg2
    exact hK w2 _ _ e0 ⟨w1.heap.size, w.heap.size, rfl, hal.size, Nat.le_refl _, by omega, hB, hg2, hs2, rfl⟩ (hal.trans (hal2.mono hal.size))
  refine cond_dec (fun hlt => ?_) (fun hge => ?_)
  · refine cond_ne (fun hs => e2 (.inl ⟨hlt, hs⟩)) (fun hs => ?_)
    refine cond_eq (fun h => absurd h (by omega)) (fun _ => ?_)
    exact rest (by omega)
  · obtain rfl : cl = 7 := by omega
    refine condP_t (ref06_Of_c ⟨_, rfl, ?_⟩)
    refine cond_ne (fun hc => e2 (.inr ⟨rfl, hc⟩)) (fun hc => rest (by omega))
theorem slot_hit {z i off : Int} (hz : 1 ≤ z) : (off % z = 0 ∧ off / z = i) ↔ off = i * z := by
  constructor
  · rintro ⟨h1, rfl⟩
    have := Int.emod_add_mul_ediv off z
    rw [h1, Int.zero_add, Int.mul_comm] at this
    exact this.symm
  · rintro rfl
    exact ⟨Int.mul_emod_left _ _, Int.mul_ediv_cancel _ (by omega)⟩
theorem ref10_Same_c {A B : Option Addr} {m m' c c' : Nat} {x y z : Int} {l : List Int} (hx : Cs w A (nums .i64 l)) (hy : Cs w B (nums .i64 l)) (hm : m = l.length) (hm' : m' = l.length) (hl : m ≤ 1000000000000000) (hK : ∀ w', Below w.heap.size w w' → K (.bool true) w') :
    CallsE Pg ref10_Same.N #[.agg #[.int .i64 x, .int .i64 y, .int .i64 z, .slice A m c], .agg #[.int .i64 x, .int .i64 y, .int .i64 z, .slice B m' c']] w K := by
  refine ref10_Same.ok (wlet_intro fun w1 e1 => ?_)
  have b1 : Below w.heap.size w w1 := by rw [e1]; exact (Below.refl _ _).alloc (Nat.le_refl _) _
  have hB1 : Blk w1 w.heap.size Ty.api_Span [.int .i64 x, .int .i64 y, .int .i64 z, .slice A m c] := by rw [e1]; exact Blk.new w _ _
  clear e1
  refine wlet_intro fun w2 e2 => ?_
  have b2 : Below w1.heap.size w1 w2 := by rw [e2]; exact (Below.refl _ _).alloc (Nat.le_refl _) _
  have hB2 : Blk w2 w1.heap.size Ty.api_Span [.int .i64 x, .int .i64 y, .int .i64 z, .slice B m' c'] := by rw [e2]; exact Blk.new w1 _ _
  clear e2
  have b2' := b1.trans (b2.mono b1.size)
  have hB1' := hB1.kp (Kp.of_below b2) id
  refine ⟨_, hB1'.cell' (j := 0) rfl, _, hB2.cell' (j := 0) rfl, cond_eq (fun _ => ?_) (fun h => absurd rfl h)⟩
  refine ⟨_, hB1'.cell' (j := 1) rfl, _, hB2.cell' (j := 1) rfl, cond_eq (fun _ => ?_) (fun h => absurd rfl h)⟩
  refine ⟨_, hB1'.cell' (j := 2) rfl, _, hB2.cell' (j := 2) rfl, cond_eq (fun _ => ?_) (fun h => absurd rfl h)⟩
  refine ⟨_, _, _, hB1'.cell' (j := 3) rfl, _, _, _, hB2.cell' (j := 3) rfl, ?_⟩
  exact ref01_Ints_c (hx.below b2') (hy.below b2') hm hm' hl ⟨_, rfl, hK w2 b2'⟩
end

end Go.Proofs.YtklmaeefnmcmlaaDoor.C
