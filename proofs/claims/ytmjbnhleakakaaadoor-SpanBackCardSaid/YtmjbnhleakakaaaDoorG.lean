/-
  Parts of the proofs of this seat: what the functions compute. No condition beyond what each theorem states.
-/
import Derived.Test.YtmjbnhleakakaaaDoorF
import Derived.Test.YtmjbnhleakakaaaDoorRK
import Derived.Test.YtmjbnhleakakaaaDoorA
import Derived.Test.YtmjbnhleakakaaaDoorB
import Derived.Test.YtmjbnhleakakaaaDoorC
import Derived.Test.YtmjbnhleakakaaaDoorD
set_option linter.unusedVariables false
set_option linter.unusedSimpArgs false
set_option maxRecDepth 100000
namespace Go.Proofs.YtmjbnhleakakaaaDoor.C
open Go Go.RowKit Go.Proofs.YtmjbnhleakakaaaDoor Go.Proofs.YtmjbnhleakakaaaDoor.Sh Go.Proofs.YtmjbnhleakakaaaDoor.F Go.Proofs.YtmjbnhleakakaaaDoor.R

/-! ### spans: their data -/
theorem st4 {w : World} {g : Nat} {e : TypeId} {a0 a1 a2 a3 v0 v1 v2 v3 : Value} {Q : World → Prop} (h : Blk w g e [a0, a1, a2, a3]) (hQ : ∀ w', Blk w' g e [v0, v1, v2, v3] → Kp (· = g) w w' → w'.heap.size = w.heap.size → Q w') :
    canStore w ⟨g, 0, none⟩ ∧ wlet (w.setCell ⟨g, 0, none⟩ v0) fun w1 => canStore w1 ⟨g, 1, none⟩ ∧ wlet (w1.setCell ⟨g, 1, none⟩ v1) fun w2 => canStore w2 ⟨g, 2, none⟩ ∧ wlet (w2.setCell ⟨g, 2, none⟩ v2) fun w3 => canStore w3 ⟨g, 3, none⟩ ∧ wlet (w3.setCell ⟨g, 3, none⟩ v3) Q := by
  have e : ∀ k, (⟨g, k, none⟩ : Addr) = (⟨g, 0, none⟩ : Addr).add k := fun k => by rw [add_at, Nat.zero_add]
  rw [e 0, e 1, e 2, e 3]
  refine blk_set1 (k := 0) h (by simp) fun w1 h1 k1 s1 => ?_
  refine blk_set1 (k := 1) h1 (by simp) fun w2 h2 k2 s2 => ?_
  refine blk_set1 (k := 2) h2 (by simp) fun w3 h3 k3 s3 => ?_
  refine blk_set1 (k := 3) h3 (by simp) fun w4 h4 k4 s4 => ?_
  exact hQ w4 h4 (((k1.trans k2 (fun _ _ h => h) (fun _ _ h => h)).trans k3 (fun _ _ h => h) (fun _ _ h => h)).trans k4 (fun _ _ h => h) (fun _ _ h => h)) (by rw [s4, s3, s2, s1])
theorem own_base {w : World} {base b' : Nat} {e : TypeId} {size n : Nat} {v : Value} {xs : List Value} (h : w.ownsRow base e size v n xs) (hb : b' ≤ base) : w.ownsRow b' e size v n xs := by
  refine ⟨h.1, ?_⟩
  rcases h.2 with h2 | ⟨g, cap, cur, h2, hbg, hh, h3, h4, h5, h6⟩
  · exact .inl h2
  · exact .inr ⟨g, cap, cur, h2, Nat.le_trans hb hbg, hh, h3, h4, h5, h6⟩
section
variable {w w0 : World} {b : Nat} {p : Option Addr} {pg pgs cl sz by' : Int} {n : Nat} {S : Nat → Bool} {F : Nat → Prop} {K : Value → World → Prop}
def dSize (cl sz : Int) : Int := if cl = 7 then sz else 0
/-- What is made of a span, once its list is there. -/
theorem data_tail {g2 g3 m c t : Nat} {q A : Option Addr} {G : Nat → Prop} {vs0 : List Value} (hb : Below w0.heap.size w0 w) (ht : Blk w t Ty.span_Span [.pointer q, .int .i64 pg, .int .i64 pgs, .int .i64 cl, .int .i64 sz])
    (h2 : Blk w g2 33 [.int .i64 0, .int .i64 0, .int .i64 0, .slice none 0 0]) (h3 : Blk w g3 33 [.int .i64 0, .int .i64 0, .int .i64 0, .slice none 0 0]) (h23 : g2 ≠ g3) (b2 : w0.heap.size ≤ g2) (b3 : w0.heap.size ≤ g3) (ht0 : t < w0.heap.size)
    (ho : w.ownsRow w0.heap.size Ty.int 1 (.slice A m c) m vs0) (ho2 : ∀ g, (Value.slice A m c).ownBlock = some g → g ≠ g2 ∧ g ≠ g3)
    (hK : ∀ w', w'.ownsRow w0.heap.size Ty.int 1 (.slice A m c) m vs0 → Below w0.heap.size w0 w' → K (.agg #[.int .i64 pg, .int .i64 cl, .int .i64 (dSize cl sz), .slice A m c]) w') :
    canStore w ⟨g3, 0, none⟩ ∧ wlet (w.setCell ⟨g3, 0, none⟩ (.int .i64 pg)) fun w1 => canStore w1 ⟨g3, 1, none⟩ ∧ wlet (w1.setCell ⟨g3, 1, none⟩ (.int .i64 cl)) fun w2 => canStore w2 ⟨g3, 2, none⟩ ∧ wlet (w2.setCell ⟨g3, 2, none⟩ (.int .i64 0)) fun w3 => canStore w3 ⟨g3, 3, none⟩ ∧ wlet (w3.setCell ⟨g3, 3, none⟩ (.slice A m c)) fun w4 => span_Span_Data.p2 K (some ⟨t, 0, none⟩) ⟨g2, 0, none⟩ ⟨g3, 0, none⟩ w4 := by
  refine st4 h3 fun w1 h31 k1 _ => ?_
  have bw1 := hb.trans (k1.below hb.size fun i hi e => by omega)
  have ht1 := ht.kp k1 (by omega)
  have h21 := h2.kp k1 h23
  have ho1 := own_kp ho k1 (fun g hg e => (ho2 g hg).2 e)
  have last : ∀ w3, Below w0.heap.size w0 w3 → Blk w3 g3 33 [.int .i64 pg, .int .i64 cl, .int .i64 (dSize cl sz), .slice A m c] → Blk w3 g2 33 [.int .i64 0, .int .i64 0, .int .i64 0, .slice none 0 0] → w3.ownsRow w0.heap.size Ty.int 1 (.slice A m c) m vs0 → span_Span_Data.p3 K ⟨g2, 0, none⟩ ⟨g3, 0, none⟩ w3 := fun w3 bw3 h33 h23' ho3 => by
    refine ⟨_, h33.cell' (j := 0) rfl, _, h33.cell' (j := 1) rfl, _, h33.cell' (j := 2) rfl, _, _, _, h33.cell' (j := 3) rfl, ?_⟩
    refine st4 h23' fun w4 h24 k4 _ => ?_
    refine ⟨_, h24.cell' (j := 0) rfl, _, h24.cell' (j := 1) rfl, _, h24.cell' (j := 2) rfl, _, _, _, h24.cell' (j := 3) rfl, ?_⟩
    exact hK w4 (own_kp ho3 k4 (fun g hg e => (ho2 g hg).1 e)) (bw3.trans (k4.below bw3.size fun i hi e => by omega))
  refine ⟨_, rfl, _, ht1.cell' (j := 3) rfl, cond_eq (fun h7 => ?_) (fun h7 => ?_)⟩
  · refine ⟨_, rfl, _, ht1.cell' (j := 4) rfl, ?_⟩
    refine blk_set1 (k := 2) h31 (by simp) fun w2 h32 k2 _ => ?_
    have e : dSize cl sz = sz := by unfold dSize; rw [if_pos h7]
    refine last w2 (bw1.trans (k2.below bw1.size fun i hi e => by omega)) ?_ (h21.kp k2 h23) (own_kp ho1 k2 (fun g hg e => (ho2 g hg).2 e))
    rw [e]; exact h32
  · have e : dSize cl sz = 0 := by unfold dSize; rw [if_neg h7]
    refine last w1 bw1 ?_ h21 ho1
    rw [e]; exact h31
theorem span_Span_Data_c (h : SpanV w b p pg pgs cl sz n S F) (hT : Tab w)
    (hK : ∀ A m c w', m = (memL S 0 n).length → w'.ownsRow w.heap.size Ty.int 1 (.slice A m c) m (nums .i64 (memL S 0 n)) → Below w.heap.size w w' → K (.agg #[.int .i64 pg, .int .i64 cl, .int .i64 (dSize cl sz), .slice A m c]) w') : CallsE Pg span_Span_Data.N #[.pointer p] w K := by
  obtain ⟨t, q, G, rfl, h1, h2, h3, h4, rfl⟩ := h
  have htl := h2.lt
  refine span_Span_Data.ok (wlet_intro fun w1 e1 => ?_)
  have b1 : Below w.heap.size w w1 := by rw [e1]; exact (Below.refl _ _).alloc (Nat.le_refl _) _
  have hB1 : Blk w1 w.heap.size 33 [.int .i64 0, .int .i64 0, .int .i64 0, .slice none 0 0] := by rw [e1]; exact Blk.new w _ _
  clear e1
  have hl1 := hB1.lt
  have t1 := h2.kp (Kp.of_below b1) id
  have s1 := h3.below b1
  have T1 := hT.below b1 hT.lt
  have cells : ∀ (j : Nat) (v : Value), ([.pointer q, .int .i64 pg, .int .i64 pgs, .int .i64 cl, .int .i64 sz] : List Value)[j]? = some v → ∀ w' : World, w'.heap[t]? = some (.cells ⟨[.pointer q, .int .i64 pg, .int .i64 pgs, .int .i64 cl, .int .i64 sz]⟩ Ty.span_Span (0, 0)) → w'.cell? ⟨t, j, none⟩ = some v := fun j v hv w' hh => Blk.cell' (show Blk w' t Ty.span_Span [.pointer q, .int .i64 pg, .int .i64 pgs, .int .i64 cl, .int .i64 sz] from hh) hv
  refine condP_f ⟨fun H => H[t]? = some (.cells ⟨[.pointer q, .int .i64 pg, .int .i64 pgs, .int .i64 cl, .int .i64 sz]⟩ Ty.span_Span (0, 0)), t1, _, rfl, _, rfl, _, rfl, _, cells 1 _ rfl, _, cells 3 _ rfl, _, cells 0 _ rfl, ?_, ?_⟩
  · refine set_Set_List_c s1 T1 fun A m c w2 hm ho b2 => ⟨_, _, _, rfl, t1.kp (Kp.of_below b2) id, ?_⟩
    have b2' := b1.trans (b2.mono b1.size)
    have fin : wlet (w2.alloc (.cells #[.int .i64 0, .int .i64 0, .int .i64 0, .slice none 0 0] 33)) fun w3 => Blk w3 t Ty.span_Span [.pointer q, .int .i64 pg, .int .i64 pgs, .int .i64 cl, .int .i64 sz] ∧ (canStore w3 ⟨w2.heap.size, 0, none⟩ ∧ wlet (w3.setCell ⟨w2.heap.size, 0, none⟩ (.int .i64 pg)) fun w4 => canStore w4 ⟨w2.heap.size, 1, none⟩ ∧ wlet (w4.setCell ⟨w2.heap.size, 1, none⟩ (.int .i64 cl)) fun w5 => canStore w5 ⟨w2.heap.size, 2, none⟩ ∧ wlet (w5.setCell ⟨w2.heap.size, 2, none⟩ (.int .i64 0)) fun w6 => canStore w6 ⟨w2.heap.size, 3, none⟩ ∧ wlet (w6.setCell ⟨w2.heap.size, 3, none⟩ (.slice A m c)) fun w7 => span_Span_Data.p2 K (some ⟨t, 0, none⟩) ⟨w.heap.size, 0, none⟩ ⟨w2.heap.size, 0, none⟩ w7) := by
      refine wlet_intro fun w3 e3 => ?_
      have b3 : Below w2.heap.size w2 w3 := by rw [e3]; exact (Below.refl _ _).alloc (Nat.le_refl _) _
      have hB3 : Blk w3 w2.heap.size 33 [.int .i64 0, .int .i64 0, .int .i64 0, .slice none 0 0] := by rw [e3]; exact Blk.new w2 _ _
      clear e3
      have t3 := (t1.kp (Kp.of_below b2) id).kp (Kp.of_below b3) id
      refine ⟨t3, data_tail (w0 := w) (G := G) (b2'.trans (b3.mono b2'.size)) t3 ((hB1.kp (Kp.of_below b2) id).kp (Kp.of_below b3) id) hB3 (by have := b2.size; omega) (Nat.le_refl _) b2'.size htl (own_base (own_below_kp ho b3) b1.size) (fun g hg => ?_) (fun w' h1 h2 => hK A m c w' hm h1 h2)⟩
      have := own_lt ho hg
      omega
    exact ⟨⟨t1.kp (Kp.of_below b2) id, fin⟩, (show _ ∧ _ from fin).1, (show _ ∧ _ from fin).1, (show _ ∧ _ from fin).2⟩
  · refine wlet_intro fun w3 e3 => ?_
    have b3 : Below w1.heap.size w1 w3 := by rw [e3]; exact (Below.refl _ _).alloc (Nat.le_refl _) _
    have hB3 : Blk w3 w1.heap.size 33 [.int .i64 0, .int .i64 0, .int .i64 0, .slice none 0 0] := by rw [e3]; exact Blk.new w1 _ _
    clear e3
    have b3' := b1.trans (b3.mono b1.size)
    have t3 := t1.kp (Kp.of_below b3) id
    have hl3 := hB3.lt
    refine ⟨t3, set_Set_List_c (s1.below b3) (T1.below b3 T1.lt) fun A m c w2 hm ho b2 => ⟨_, _, _, rfl, t3.kp (Kp.of_below b2) id, t3.kp (Kp.of_below b2) id, ?_⟩⟩
    refine data_tail (w0 := w) (G := G) (b3'.trans (b2.mono b3'.size)) (t3.kp (Kp.of_below b2) id) ((hB1.kp (Kp.of_below b3) id).kp (Kp.of_below b2) id) (hB3.kp (Kp.of_below b2) id) (by omega) (Nat.le_refl _) b1.size htl (own_base ho b3'.size) (fun g hg => ?_) (fun w' h1 h2 => hK A m c w' hm h1 h2)
    have := own_lt ho hg
    omega
end
/-! ### spans: the document's -/
section
variable {w w0 : World} {b : Nat} {p : Option Addr} {pg pgs cl sz by' : Int} {n : Nat} {S : Nat → Bool} {F : Nat → Prop} {K : Value → World → Prop}
def Ref10V (w : World) (b : Nat) (p : Option Addr) (pg cl by' : Int) (n : Nat) (S : Nat → Bool) (F : Nat → Prop) : Prop :=
  ∃ t g, p = some ⟨t, 0, none⟩ ∧ b ≤ t ∧ b ≤ g ∧ g ≠ t ∧ Blk w t Ty.ref10_Span [.int .i64 pg, .int .i64 cl, .int .i64 by', .slice (some ⟨g, 0, none⟩) n n] ∧ Blk w g Ty.bool (bools (ins S n)) ∧ n ≤ 16 ∧ F = fun i => i = t ∨ i = g
theorem Ref10V.kp {w' : World} {X : Nat → Prop} (h : Ref10V w b p pg cl by' n S F) (k : Kp X w w') (hd : ∀ i, F i → ¬ X i) : Ref10V w' b p pg cl by' n S F := by
  obtain ⟨t, g, rfl, h1, h2, h3, h4, h5, h6, rfl⟩ := h
  exact ⟨t, g, rfl, h1, h2, h3, h4.kp k (hd t (.inl rfl)), h5.kp k (hd g (.inr rfl)), h6, rfl⟩
theorem Ref10V.lt (h : Ref10V w b p pg cl by' n S F) {i : Nat} (hi : F i) : b ≤ i ∧ i < w.heap.size := by
  obtain ⟨t, g, rfl, h1, h2, h3, h4, h5, h6, rfl⟩ := h
  rcases hi with rfl | rfl
  · exact ⟨h1, h4.lt⟩
  · exact ⟨h2, h5.lt⟩
theorem Ref10V.below {w' : World} (h : Ref10V w b p pg cl by' n S F) (k : Below w.heap.size w w') : Ref10V w' b p pg cl by' n S F := h.kp (Kp.of_below k) (fun _ _ => id)
theorem Ref10V.base {b' : Nat} (h : Ref10V w b p pg cl by' n S F) (hb : b' ≤ b) : Ref10V w b' p pg cl by' n S F := by
  obtain ⟨t, g, rfl, h1, h2, h3, h4, h5, h6, rfl⟩ := h
  exact ⟨t, g, rfl, by omega, by omega, h3, h4, h5, h6, rfl⟩
theorem Ref10V.under {w' : World} {b0 : Nat} (h : Ref10V w b p pg cl by' n S F) (hb : b0 ≤ b) (hw : b0 ≤ w.heap.size) (k : Kp F w w') : Below b0 w w' :=
  k.below hw fun i hi hs => by have := (h.lt hs).1; omega
theorem ref10_Pages_c {size : Int} (hK : K (.int .i64 (pagesOf cl size)) w) : CallsE Pg ref10_Pages.N #[.int .i64 cl, .int .i64 size] w K := by
  unfold pagesOf at hK
  refine ref10_Pages.ok (cond_eq (fun h => ?_) (fun h => ?_))
  · rw [if_pos h] at hK
    exact ref06_Pages_c ⟨_, rfl, hK⟩
  · rw [if_neg h] at hK
    exact hK
theorem ins_none (n : Nat) : ins noneS n = List.replicate n false := by
  apply List.ext_getElem?
  intro k
  by_cases h : k < n
  · rw [ins_at h, List.getElem?_replicate, if_pos h]; rfl
  · rw [List.getElem?_eq_none (by rw [ins_len]; omega), List.getElem?_eq_none (by simp; omega)]
theorem ref10_New_c {size : Int} (hpg : I64 pg) (hcl : I64 cl) (hsize : I64 size)
    (hE : newErr pg cl size ≠ 0 → K (.tuple #[.pointer none, .int .i64 (newErr pg cl size)]) w)
    (hK : ∀ w' p F, newErr pg cl size = 0 → Ref10V w' w.heap.size p pg cl size (slotsN cl) noneS F → Below w.heap.size w w' → K (.tuple #[.pointer p, .int .i64 0]) w') : CallsE Pg ref10_New.N #[.int .i64 pg, .int .i64 cl, .int .i64 size] w K := by
  refine ref10_New.ok ?_
  have e11 : (cl < 0 ∨ 7 < cl) → K (.tuple #[.pointer none, .int .i64 11]) w := fun h => by
    have e : newErr pg cl size = 11 := by unfold newErr; rw [if_pos h]
    rw [e] at hE
    exact hE (by decide)
  refine cond_dec (fun h => e11 (.inl h)) (fun h0 => ?_)
  show condP (decide (7 < cl)) _ _
  refine cond_dec (fun h => e11 (.inr h)) (fun h7 => ?_)
  have e2 : ((cl < 7 ∧ size ≠ 0) ∨ (cl = 7 ∧ clsOf size ≠ 7)) → K (.tuple #[.pointer none, .int .i64 2]) w := fun h => by
    have e : newErr pg cl size = 2 := by unfold newErr; rw [if_neg (by omega), if_pos h]
    rw [e] at hE
    exact hE (by decide)
  have rest : ¬ ((cl < 7 ∧ size ≠ 0) ∨ (cl = 7 ∧ clsOf size ≠ 7)) → ref10_New.p4 K pg cl size w := fun hn => by
    have hpr : 0 ≤ pagesOf cl size ∧ pagesOf cl size ≤ 16 := by
      unfold pagesOf
      split
      · exact clsPages_range size
      · omega
    have e10 : (pg < 0 ∨ 4096 - pagesOf cl size < pg) → K (.tuple #[.pointer none, .int .i64 10]) w := fun h => by
      have e : newErr pg cl size = 10 := by unfold newErr; rw [if_neg (by omega), if_neg hn, if_pos h]
      rw [e] at hE
      exact hE (by decide)
    refine cond_dec (fun h => e10 (.inl h)) (fun hp0 => ?_)
    refine ref10_Pages_c ⟨_, rfl, ?_⟩
    rw [wrap64_in (by omega) (by omega)]
    refine cond_dec (fun h => e10 (.inr h)) (fun hp1 => ?_)
    have e0 : newErr pg cl size = 0 := by unfold newErr; rw [if_neg (by omega), if_neg hn, if_neg (by omega)]
    obtain ⟨hs1, hs2⟩ := clsSlots_nat cl
    refine ref06_Slots_c ⟨_, rfl, ?_⟩
    rw [hs1, Int.toNat_natCast, made_bools]
    refine ⟨⟨by omega, by omega, by omega, by omega⟩, wlet_intro fun w1 h1 => wlet_intro fun w2 h2 => ?_⟩
    have hal : Below w.heap.size w w1 := by rw [h1]; exact (Below.refl _ _).alloc (Nat.le_refl _) _
    have hg : Blk w1 w.heap.size Ty.bool (bools (List.replicate (slotsN cl) false)) := by rw [h1]; exact Blk.new w _ _
    clear h1
    have hal2 : Below w1.heap.size w1 w2 := by rw [h2]; exact (Below.refl _ _).alloc (Nat.le_refl _) _
    have hB : Blk w2 w1.heap.size Ty.ref10_Span [.int .i64 pg, .int .i64 cl, .int .i64 size, .slice (some ⟨w.heap.size, 0, none⟩) (slotsN cl) (slotsN cl)] := by rw [h2]; exact Blk.new w1 _ _
    clear h2
    have hg2 := hg.kp (Kp.of_below hal2) id
    have hlt := hg.lt
    rw [← ins_none] at hg2
    exact hK w2 _ _ e0 ⟨w1.heap.size, w.heap.size, rfl, hal.size, Nat.le_refl _, by omega, hB, hg2, hs2, rfl⟩ (hal.trans (hal2.mono hal.size))
  refine cond_dec (fun hlt => ?_) (fun hge => ?_)
  · refine cond_ne (fun hs => e2 (.inl ⟨hlt, hs⟩)) (fun hs => ?_)
    refine cond_eq (fun h => absurd h (by omega)) (fun _ => ?_)
    exact rest (by omega)
  · obtain rfl : cl = 7 := by omega
    refine condP_t (ref06_Of_c ⟨_, rfl, ?_⟩)
    refine cond_ne (fun hc => e2 (.inr ⟨rfl, hc⟩)) (fun hc => rest (by omega))
theorem ref10_Span_Size_c (h : Ref10V w b p pg cl by' n S F) (hK : K (.int .i64 (spSize cl by')) w) : CallsE Pg ref10_Span_Size.N #[.pointer p] w K := by
  obtain ⟨t, g, rfl, h1, h2, h3, h4, h5, h6, rfl⟩ := h
  unfold spSize at hK
  refine ref10_Span_Size.ok ⟨_, rfl, _, h4.cell' (j := 1) rfl, cond_eq (fun hc => ?_) (fun hc => ?_)⟩
  · rw [if_pos hc] at hK
    exact ⟨_, rfl, _, h4.cell' (j := 2) rfl, hK⟩
  · rw [if_neg hc] at hK
    exact ⟨_, rfl, _, h4.cell' (j := 1) rfl, ref06_Size_c ⟨_, rfl, hK⟩⟩
theorem ref10_Span_At_c {i : Int} (h : Ref10V w b p pg cl by' n S F) (hpg : 0 ≤ pg ∧ pg ≤ 4096) (hsz : 1 ≤ spSize cl by' ∧ spSize cl by' ≤ 4096) (hK : K (.tuple #[.int .i64 (atV pg (spSize cl by') n i).1, .bool (atV pg (spSize cl by') n i).2]) w) : CallsE Pg ref10_Span_At.N #[.pointer p, .int .i64 i] w K := by
  have h0 := h
  obtain ⟨t, g, rfl, h1, h2, h3, h4, h5, h6, rfl⟩ := h
  unfold atV at hK
  have no : (i < 0 ∨ n ≤ i) → K (.tuple #[.int .i64 0, .bool false]) w := fun hi => by rw [if_pos hi] at hK; exact hK
  refine ref10_Span_At.ok (cond_dec (fun hi => no (.inl hi)) (fun hi => ?_))
  refine ⟨_, rfl, _, _, _, h4.cell' (j := 3) rfl, cond_dec (fun hi2 => no (.inr hi2)) (fun hi2 => ?_)⟩
  rw [if_neg (by omega)] at hK
  refine ⟨fun H => H = w.heap, rfl, _, rfl, _, fun w' e => held (h4.cell' (j := 0) rfl) w' e, ref10_Span_Size_c h0 ⟨_, rfl, rfl, ?_⟩⟩
  generalize spSize cl by' = z at hsz hK
  have hm : 0 ≤ i * z ∧ i * z ≤ 16 * 4096 := ⟨Int.mul_nonneg (by omega) (by omega), Int.mul_le_mul (by omega) (by omega) (by omega) (by omega)⟩
  rw [wrap64_in (x := 256 * pg) (by omega) (by omega), wrap64_in (x := i * z) (by omega) (by omega), wrap64_in (by omega) (by omega)]
  have e : 256 * pg + i * z = pg * 256 + i * z := by omega
  rw [e]
  exact hK
theorem slot_hit {z i off : Int} (hz : 1 ≤ z) : (off % z = 0 ∧ off / z = i) ↔ off = i * z := by
  constructor
  · rintro ⟨h1, rfl⟩
    have := Int.emod_add_mul_ediv off z
    rw [h1, Int.zero_add, Int.mul_comm] at this
    exact this.symm
  · rintro rfl
    exact ⟨Int.mul_emod_left _ _, Int.mul_ediv_cancel _ (by omega)⟩
theorem rslot_loop {at' : Int} (h : Ref10V w b p pg cl by' n S F) (hpg : 0 ≤ pg ∧ pg ≤ 4096) (hsz : 1 ≤ spSize cl by' ∧ spSize cl by' ≤ 4096) (hK : K (.tuple #[.int .i64 (slotV pg (spSize cl by') n at').1, .bool (slotV pg (spSize cl by') n at').2]) w) :
    ∀ (d k : Nat), k + d = n → (∀ j : Nat, j < k → at' ≠ pg * 256 + (j : Int) * spSize cl by') → ref10_Span_Slot.l0 K (d + 1) p at' n k w := by
  have hn : n ≤ 16 := by obtain ⟨t, g, rfl, h1, h2, h3, h4, h5, h6, rfl⟩ := h; exact h6
  intro d
  induction d with
  | zero =>
    intro k hk hno
    rw [ref10_Span_Slot.l0_succ]
    refine cond_dec (fun h => by omega) (fun _ => ?_)
    have e : slotV pg (spSize cl by') n at' = (0, false) := by
      unfold slotV
      by_cases h1 : at' < pg * 256
      · rw [if_pos h1]
      · rw [if_neg h1]
        by_cases h2 : (at' - pg * 256) % spSize cl by' ≠ 0 ∨ (n : Int) ≤ (at' - pg * 256) / spSize cl by'
        · rw [if_pos h2]
        · exfalso
          have hq := Int.ediv_nonneg (show 0 ≤ at' - pg * 256 by omega) (show 0 ≤ spSize cl by' by omega)
          obtain ⟨j, hj⟩ := Int.eq_ofNat_of_zero_le hq
          have := (slot_hit (i := j) hsz.1).1 ⟨by omega, hj⟩
          exact hno j (by omega) (by omega)
    rw [e] at hK
    exact hK
  | succ d ih =>
    intro k hk hno
    rw [ref10_Span_Slot.l0_succ]
    refine cond_dec (fun _ => ?_) (fun h => absurd h (by omega))
    refine ref10_Span_At_c h hpg hsz ⟨_, _, rfl, ?_⟩
    have ea : atV pg (spSize cl by') n (k : Int) = (pg * 256 + (k : Int) * spSize cl by', true) := by unfold atV; rw [if_neg (by omega)]
    rw [ea]
    refine cond_eq (fun he => ?_) (fun he => ?_)
    · have e : slotV pg (spSize cl by') n at' = ((k : Int), true) := by
        have hm : 0 ≤ (k : Int) * spSize cl by' := Int.mul_nonneg (by omega) (by omega)
        unfold slotV
        have e1 : at' - pg * 256 = (k : Int) * spSize cl by' := by omega
        obtain ⟨q1, q2⟩ := (slot_hit (z := spSize cl by') (i := (k : Int)) (off := (k : Int) * spSize cl by') hsz.1).2 rfl
        rw [if_neg (by omega), e1, q1, q2, if_neg (by omega)]
      rw [e] at hK
      exact hK
    · rw [cst k (by omega)]
      refine ih (k + 1) (by omega) (fun j hj => ?_)
      by_cases hjk : j = k
      · rw [hjk]; exact fun e => he e.symm
      · exact hno j (by omega)
theorem ref10_Span_Slot_c {at' : Int} (h : Ref10V w b p pg cl by' n S F) (hpg : 0 ≤ pg ∧ pg ≤ 4096) (hsz : 1 ≤ spSize cl by' ∧ spSize cl by' ≤ 4096) (hK : K (.tuple #[.int .i64 (slotV pg (spSize cl by') n at').1, .bool (slotV pg (spSize cl by') n at').2]) w) : CallsE Pg ref10_Span_Slot.N #[.pointer p, .int .i64 at'] w K := by
  have h0 := h
  obtain ⟨t, g, rfl, h1, h2, h3, h4, h5, h6, rfl⟩ := h
  exact ref10_Span_Slot.ok ⟨_, rfl, _, _, _, h4.cell' (j := 3) rfl, n + 1, rslot_loop h0 hpg hsz hK n 0 (by omega) (fun j hj => by omega)⟩
theorem ref10_Span_Has_c {i : Int} (h : Ref10V w b p pg cl by' n S F) (hS : Within S n) (hK : K (.bool (hasV S i)) w) : CallsE Pg ref10_Span_Has.N #[.pointer p, .int .i64 i] w K := by
  obtain ⟨t, g, rfl, h1, h2, h3, h4, h5, h6, rfl⟩ := h
  unfold hasV at hK
  refine ref10_Span_Has.ok (cond_dec (fun hi => ?_) (fun hi => ?_))
  · refine ⟨_, rfl, _, _, _, h4.cell' (j := 3) rfl, cond_dec (fun hlt => ?_) (fun hlt => ?_)⟩
    · obtain ⟨k, rfl⟩ := Int.eq_ofNat_of_zero_le hi
      obtain ⟨a, ea, hc⟩ := (Cs.of_blk0 h5).at (bools_at (ins_at (S := S) (show k < n by omega)))
      cases ea
      rw [Int.toNat_natCast]
      refine ⟨_, rfl, _, _, _, h4.cell' (j := 3) rfl, ⟨by omega, by omega⟩, _, rfl, _, hc, ?_⟩
      rw [decide_eq_true hi, Int.toNat_natCast] at hK
      exact hK
    · rw [hS i.toNat (by omega), Bool.and_false] at hK
      exact hK
  · rw [decide_eq_false hi] at hK
    exact hK
theorem ref10_Span_Give_c {i : Int} (h : Ref10V w b p pg cl by' n S F) (hS : Within S n) (hK : ∀ w', Ref10V w' b p pg cl by' n (putS S n i false) F → Kp F w w' → K (.bool (canPut S n i false)) w') : CallsE Pg ref10_Span_Give.N #[.pointer p, .int .i64 i] w K := by
  have edel := @del_has S n i hS
  have h0 := h
  refine ref10_Span_Give.ok (ref10_Span_Has_c h hS ⟨_, rfl, ?_⟩)
  cases hh : hasV S i with
  | false =>
    have := hK w (by unfold putS; rw [edel, hh]; exact h0) (Kp.refl _ _)
    rw [edel, hh] at this
    exact this
  | true =>
    rw [hh] at edel
    have eput : putS S n i false = upd S i.toNat false := by unfold putS; rw [if_pos edel]
    rw [eput, edel] at hK
    obtain ⟨k, rfl, hkn, _⟩ := canPut_true edel
    rw [Int.toNat_natCast] at hK
    obtain ⟨t, g, rfl, h1, h2, h3, h4, h5, h6, rfl⟩ := h
    rw [Int.toNat_natCast]
    refine condP_nt ⟨_, rfl, _, _, _, h4.cell' (j := 3) rfl, ⟨by omega, by omega⟩, _, rfl, ?_⟩
    refine blk_set1 (k := k) h5 (by rw [bools_len, ins_len]; omega) fun w' hB' hk' _ => ?_
    rw [bools_set, ins_set (by omega)] at hB'
    exact hK w' ⟨t, g, rfl, h1, h2, h3, h4.kp hk' (fun e => h3 e.symm), hB', h6, rfl⟩ (hk'.mono (fun i _ e => .inr e))
theorem rtake_loop (h : Ref10V w b p pg cl by' n S F) (hK : ∀ w', Ref10V w' b p pg cl by' n (takeS S n) F → Kp F w w' → K (.tuple #[.int .i64 (takeV S n).1, .bool (takeV S n).2]) w') : ∀ (d k : Nat), k + d = n → freeV S n = nxt S false k d → ref10_Span_Take.l0 K (d + 1) p n k w := by
  have h0 := h
  obtain ⟨t, g, rfl, h1, h2, h3, h4, h5, h6, rfl⟩ := h
  unfold takeS takeV at hK
  intro d
  induction d with
  | zero =>
    intro k hk hf
    rw [ref10_Span_Take.l0_succ]
    refine cond_dec (fun h => by omega) (fun _ => ?_)
    have e : freeV S n = -1 := hf
    rw [e, if_pos (by decide), if_pos (by decide)] at hK
    exact hK w h0 (Kp.refl _ _)
  | succ d ih =>
    intro k hk hf
    rw [ref10_Span_Take.l0_succ]
    refine cond_dec (fun _ => ?_) (fun h => absurd h (by omega))
    obtain ⟨a, ea, hc⟩ := (Cs.of_blk0 h5).at (bools_at (ins_at (S := S) (show k < n by omega)))
    cases ea
    rw [Int.toNat_natCast]
    refine ⟨_, rfl, _, _, _, h4.cell' (j := 3) rfl, ⟨by omega, by omega⟩, _, rfl, _, hc, ?_⟩
    rw [nxt] at hf
    cases hs : S k with
    | true =>
      rw [hs, if_neg (by decide)] at hf
      refine condP_f ?_
      rw [cst k (by omega)]
      exact ih (k + 1) (by omega) hf
    | false =>
      rw [hs, if_pos rfl] at hf
      rw [hf, if_neg (by omega), if_neg (by omega), Int.toNat_natCast] at hK
      refine condP_t ⟨_, rfl, _, _, _, h4.cell' (j := 3) rfl, ⟨by omega, by omega⟩, _, rfl, ?_⟩
      refine blk_set1 (k := k) h5 (by rw [bools_len, ins_len]; omega) fun w' hB' hk' _ => ?_
      rw [bools_set, ins_set (by omega)] at hB'
      exact hK w' ⟨t, g, rfl, h1, h2, h3, h4.kp hk' (fun e => h3 e.symm), hB', h6, rfl⟩ (hk'.mono (fun i _ e => .inr e))
theorem ref10_Span_Take_c (h : Ref10V w b p pg cl by' n S F) (hK : ∀ w', Ref10V w' b p pg cl by' n (takeS S n) F → Kp F w w' → K (.tuple #[.int .i64 (takeV S n).1, .bool (takeV S n).2]) w') : CallsE Pg ref10_Span_Take.N #[.pointer p] w K := by
  have h0 := h
  obtain ⟨t, g, rfl, h1, h2, h3, h4, h5, h6, rfl⟩ := h
  exact ref10_Span_Take.ok ⟨_, rfl, _, _, _, h4.cell' (j := 3) rfl, n + 1, rtake_loop h0 hK n 0 (by omega) rfl⟩
theorem rlive_loop (h : Ref10V w0 b p pg cl by' n S F)
    (hK : ∀ A m c w', m = (memL S 0 n).length → w'.ownsRow w0.heap.size Ty.int 1 (.slice A m c) m (nums .i64 (memL S 0 n)) → Below w0.heap.size w0 w' → K (.slice A m c) w') :
    ∀ (d f : Nat) (w : World) (acc : List Int) (A : Option Addr) (c : Nat), f + d = n → Below w0.heap.size w0 w → w.ownsRow w0.heap.size Ty.int 1 (.slice A acc.length c) acc.length (nums .i64 acc) → acc ++ memL S f d = memL S 0 n →
      ref10_Span_Live.l0 K (d + 1) p A acc.length c n f w := by
  have hn : n ≤ 16 := by obtain ⟨t, g, rfl, h1, h2, h3, h4, h5, h6, rfl⟩ := h; exact h6
  have hll := @memL_le S 0 n
  intro d
  induction d with
  | zero =>
    intro f w acc A c hf hb ho he
    rw [ref10_Span_Live.l0_succ]
    simp only [memL, List.append_nil] at he
    show condP (decide ((f : Int) < _)) _ _
    refine cond_dec (fun h => by omega) (fun _ => hK A _ c w (by rw [he]) ?_ hb)
    rw [← he]; exact ho
  | succ d ih =>
    intro f w acc A c hf hb ho he
    rw [ref10_Span_Live.l0_succ]
    show condP (decide ((f : Int) < _)) _ _
    refine cond_dec (fun _ => ?_) (fun h => absurd h (by omega))
    have h' := h.below hb
    obtain ⟨t, g, rfl, h1, h2, h3, h4, h5, h6, hF⟩ := h'
    obtain ⟨a, ea, hc⟩ := (Cs.of_blk0 h5).at (bools_at (ins_at (S := S) (show f < n by omega)))
    cases ea
    unfold ref10_Span_Live.p4
    rw [Int.toNat_natCast]
    refine ⟨_, rfl, _, _, _, h4.cell' (j := 3) rfl, ⟨by omega, by omega⟩, _, rfl, _, hc, ?_⟩
    rw [memL] at he
    cases hs : S f with
    | false =>
      rw [hs] at he
      show ref10_Span_Live.l0 K (d + 1) _ A acc.length c n (IntKind.wrap .i64 ((f : Int) + 1)) w
      rw [cst f (by omega)]
      exact ih (f + 1) w acc A c (by omega) hb ho he
    | true =>
      rw [hs] at he
      refine condP_t (wlet_intro fun w1 hw1 => ?_)
      have hal : Below w.heap.size w w1 := by rw [hw1]; exact (Below.refl _ _).alloc (Nat.le_refl _) _
      have hz : Blk w1 w.heap.size Ty.int (nums .i64 [(f : Int)]) := by rw [hw1]; exact Blk.new w Ty.int _
      clear hw1
      have b1 := hb.trans (hal.mono hb.size)
      have ho1 := own_below_kp ho hal
      have hla : acc.length ≤ 65536 := by have := congrArg List.length he; rw [List.length_append] at this; omega
      refine app_i64 (m := 1) ho1 rfl (Cs.of_blk0 hz) (by omega) b1.size fun A' c' w2 ho2 hm2 => ⟨_, _, _, rfl, ?_⟩
      have b2 := b1.trans (hm2.kp.below b1.size fun i hi e => by have := (own_lt ho1 e).1; omega)
      show ref10_Span_Live.l0 K (d + 1) _ A' _ c' n (IntKind.wrap .i64 ((f : Int) + 1)) w2
      rw [cst f (by omega)]
      have el : acc.length + 1 = (acc ++ [(f : Int)]).length := by simp
      rw [el] at ho2 ⊢
      exact ih (f + 1) w2 _ A' c' (by omega) b2 ho2 (by rw [List.append_assoc]; exact he)
theorem ref10_Span_Live_c (h : Ref10V w b p pg cl by' n S F)
    (hK : ∀ A m c w', m = (memL S 0 n).length → w'.ownsRow w.heap.size Ty.int 1 (.slice A m c) m (nums .i64 (memL S 0 n)) → Below w.heap.size w w' → K (.slice A m c) w') : CallsE Pg ref10_Span_Live.N #[.pointer p] w K := by
  have h0 := h
  obtain ⟨t, g, rfl, h1, h2, h3, h4, h5, h6, rfl⟩ := h
  exact ref10_Span_Live.ok ⟨_, rfl, _, _, _, h4.cell' (j := 3) rfl, n + 1, rlive_loop h0 hK n 0 w [] none 0 (by omega) (Below.refl _ _) (World.ownsRow_nil _ _ _ _) rfl⟩
theorem ref10_Span_Data_c (h : Ref10V w b p pg cl by' n S F)
    (hK : ∀ A m c w', m = (memL S 0 n).length → w'.ownsRow w.heap.size Ty.int 1 (.slice A m c) m (nums .i64 (memL S 0 n)) → Below w.heap.size w w' → K (.agg #[.int .i64 pg, .int .i64 cl, .int .i64 by', .slice A m c]) w') : CallsE Pg ref10_Span_Data.N #[.pointer p] w K := by
  have h0 := h
  obtain ⟨t, g, rfl, h1, h2, h3, h4, h5, h6, rfl⟩ := h
  have htl := h4.lt
  refine ref10_Span_Data.ok (wlet_intro fun w1 e1 => ?_)
  have b1 : Below w.heap.size w w1 := by rw [e1]; exact (Below.refl _ _).alloc (Nat.le_refl _) _
  have hB1 : Blk w1 w.heap.size 33 [.int .i64 0, .int .i64 0, .int .i64 0, .slice none 0 0] := by rw [e1]; exact Blk.new w _ _
  clear e1
  have hl1 := hB1.lt
  have t1 := h4.kp (Kp.of_below b1) id
  have cells : ∀ (j : Nat) (v : Value), ([.int .i64 pg, .int .i64 cl, .int .i64 by', .slice (some ⟨g, 0, none⟩) n n] : List Value)[j]? = some v → ∀ w' : World, w'.heap[t]? = some (.cells ⟨[.int .i64 pg, .int .i64 cl, .int .i64 by', .slice (some ⟨g, 0, none⟩) n n]⟩ Ty.ref10_Span (0, 0)) → w'.cell? ⟨t, j, none⟩ = some v := fun j v hv w' hh => Blk.cell' (show Blk w' t Ty.ref10_Span [.int .i64 pg, .int .i64 cl, .int .i64 by', .slice (some ⟨g, 0, none⟩) n n] from hh) hv
  refine ⟨fun H => H[t]? = some (.cells ⟨[.int .i64 pg, .int .i64 cl, .int .i64 by', .slice (some ⟨g, 0, none⟩) n n]⟩ Ty.ref10_Span (0, 0)), t1, _, rfl, _, rfl, _, rfl, _, cells 0 _ rfl, _, cells 1 _ rfl, _, cells 2 _ rfl, ?_⟩
  refine ref10_Span_Live_c (h0.below b1) fun A m c w2 hm ho b2 => ⟨_, _, _, rfl, t1.kp (Kp.of_below b2) id, ?_⟩
  have b2' := b1.trans (b2.mono b1.size)
  refine st4 (hB1.kp (Kp.of_below b2) id) fun w3 h3' k3 _ => ?_
  refine ⟨_, h3'.cell' (j := 0) rfl, _, h3'.cell' (j := 1) rfl, _, h3'.cell' (j := 2) rfl, _, _, _, h3'.cell' (j := 3) rfl, ?_⟩
  exact hK A m c w3 hm (own_base (own_kp ho k3 (fun g' hg e => by have := (own_lt ho hg).1; omega)) b1.size) (b2'.trans (k3.below b2'.size fun i hi e => by omega))
theorem ref10_Same_c {A B : Option Addr} {m m' c c' : Nat} {x y z : Int} {l : List Int} (hx : Cs w A (nums .i64 l)) (hy : Cs w B (nums .i64 l)) (hm : m = l.length) (hm' : m' = l.length) (hl : m ≤ 1000000000000000) (hK : ∀ w', Below w.heap.size w w' → K (.bool true) w') :
    CallsE Pg ref10_Same.N #[.agg #[.int .i64 x, .int .i64 y, .int .i64 z, .slice A m c], .agg #[.int .i64 x, .int .i64 y, .int .i64 z, .slice B m' c']] w K := by
  refine ref10_Same.ok (wlet_intro fun w1 e1 => ?_)
  have b1 : Below w.heap.size w w1 := by rw [e1]; exact (Below.refl _ _).alloc (Nat.le_refl _) _
  have hB1 : Blk w1 w.heap.size 33 [.int .i64 x, .int .i64 y, .int .i64 z, .slice A m c] := by rw [e1]; exact Blk.new w _ _
  clear e1
  refine wlet_intro fun w2 e2 => ?_
  have b2 : Below w1.heap.size w1 w2 := by rw [e2]; exact (Below.refl _ _).alloc (Nat.le_refl _) _
  have hB2 : Blk w2 w1.heap.size 33 [.int .i64 x, .int .i64 y, .int .i64 z, .slice B m' c'] := by rw [e2]; exact Blk.new w1 _ _
  clear e2
  have b2' := b1.trans (b2.mono b1.size)
  have hB1' := hB1.kp (Kp.of_below b2) id
  refine ⟨_, hB1'.cell' (j := 0) rfl, _, hB2.cell' (j := 0) rfl, cond_eq (fun _ => ?_) (fun h => absurd rfl h)⟩
  refine ⟨_, hB1'.cell' (j := 1) rfl, _, hB2.cell' (j := 1) rfl, cond_eq (fun _ => ?_) (fun h => absurd rfl h)⟩
  refine ⟨_, hB1'.cell' (j := 2) rfl, _, hB2.cell' (j := 2) rfl, cond_eq (fun _ => ?_) (fun h => absurd rfl h)⟩
  refine ⟨_, _, _, hB1'.cell' (j := 3) rfl, _, _, _, hB2.cell' (j := 3) rfl, ?_⟩
  exact ref01_Ints_c (hx.below b2') (hy.below b2') hm hm' hl ⟨_, rfl, hK w2 b2'⟩
end

end Go.Proofs.YtmjbnhleakakaaaDoor.C
