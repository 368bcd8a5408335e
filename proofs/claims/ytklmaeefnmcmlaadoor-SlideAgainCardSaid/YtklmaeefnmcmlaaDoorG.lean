/-
  Parts of the proofs of this seat: what the functions compute. No condition beyond what each theorem states.
-/
import Derived.Test.YtklmaeefnmcmlaaDoorF
import Derived.Test.YtklmaeefnmcmlaaDoorRK
import Derived.Test.YtklmaeefnmcmlaaDoorA
import Derived.Test.YtklmaeefnmcmlaaDoorB
import Derived.Test.YtklmaeefnmcmlaaDoorC
import Derived.Test.YtklmaeefnmcmlaaDoorD
import Derived.Test.YtklmaeefnmcmlaaDoorE
set_option linter.unusedVariables false
set_option linter.unusedSimpArgs false
set_option maxRecDepth 100000
namespace Go.Proofs.YtklmaeefnmcmlaaDoor.C
open Go Go.RowKit Go.Proofs.YtklmaeefnmcmlaaDoor Go.Proofs.YtklmaeefnmcmlaaDoor.Sh Go.Proofs.YtklmaeefnmcmlaaDoor.F Go.Proofs.YtklmaeefnmcmlaaDoor.R

/-! ### spans out of data -/
def riseV (n : Nat) : Int → List Int → Bool
  | _, [] => true
  | last, x :: l => if x ≤ last ∨ (n : Int) ≤ x then false else riseV n x l
def setL (l : List Int) : Nat → Bool := fun i => decide ((i : Int) ∈ l)
def ofErr (pg cl size : Int) (l : List Int) : Int := if newErr pg cl size ≠ 0 then newErr pg cl size else if riseV (slotsN cl) (-1) l = true then 0 else 4
theorem setL_nil : setL [] = noneS := funext fun i => by unfold setL noneS; simp
theorem setL_snoc {l : List Int} {x : Nat} : upd (setL l) x true = setL (l ++ [(x : Int)]) := funext fun i => by
  unfold upd setL
  by_cases h : i = x
  · rw [if_pos h, h]; simp
  · rw [if_neg h]
    refine decide_eq_decide.2 ?_
    simp only [List.mem_append, List.mem_singleton]
    constructor
    · exact .inl
    · rintro (h1 | h1)
      · exact h1
      · exact absurd (by omega) h
theorem setL_within {l : List Int} {n : Nat} (h : ∀ y ∈ l, y < (n : Int)) : Within (setL l) n := fun i hi => by
  unfold setL
  refine decide_eq_false fun hm => ?_
  have := h _ hm
  omega
section
variable {w w0 : World} {b : Nat} {p : Option Addr} {pg pgs cl sz by' size : Int} {n : Nat} {S : Nat → Bool} {F : Nat → Prop} {K : Value → World → Prop} {l : List Int}
theorem of_loop {A : Option Addr} {m c : Nat} (hx : Cs w0 A (nums .i64 l)) (hm : m = l.length) (hml : m ≤ 1000000000000000) (hi : ∀ x ∈ l, I64 x) (hb0 : w0.heap.size ≤ b) (hn : n ≤ 16)
    (hE : ∀ w', riseV n (-1) l = false → Below w0.heap.size w0 w' → K (.tuple #[.pointer none, .int .i64 4]) w')
    (hK : ∀ w', riseV n (-1) l = true → SpanV w' b p pg pgs cl sz n (setL l) F → Within (setL l) n → Below w0.heap.size w0 w' → K (.tuple #[.pointer p, .int .i64 0]) w') :
    ∀ (d k : Nat) (last : Int) (w : World), k + d = m → -1 ≤ last → last ≤ 16 → (∀ y ∈ l.take k, y ≤ last ∧ y < (n : Int)) → riseV n last (l.drop k) = riseV n (-1) l → Below w0.heap.size w0 w → SpanV w b p pg pgs cl sz n (setL (l.take k)) F → span_Of.l0 K (d + 1) p last A m c m k w := by
  intro d
  induction d with
  | zero =>
    intro k last w hk h0 h1 hin hr hb h
    rw [span_Of.l0_succ]
    show condP (decide ((k : Int) < _)) _ _
    refine cond_dec (fun h => by omega) (fun _ => ?_)
    rw [List.drop_of_length_le (by omega), riseV] at hr
    rw [List.take_of_length_le (by omega)] at h hin
    exact hK w hr.symm h (setL_within fun y hy => (hin y hy).2) hb
  | succ d ih =>
    intro k last w hk h0 h1 hin hr hb h
    rw [span_Of.l0_succ]
    show condP (decide ((k : Int) < _)) _ _
    refine cond_dec (fun _ => ?_) (fun h => absurd h (by omega))
    have hlt : k < l.length := by omega
    have hxk : l[k]? = some l[k] := List.getElem?_eq_getElem hlt
    have hik := hi _ (List.getElem_mem hlt)
    obtain ⟨a, rfl, c0⟩ := (hx.below hb).at (nums_at hxk)
    rw [List.drop_eq_getElem_cons hlt, riseV] at hr
    have et : l.take (k + 1) = l.take k ++ [l[k]] := take_snoc hxk
    unfold span_Of.p6
    rw [Int.toNat_natCast]
    refine ⟨⟨by omega, by omega⟩, a, rfl, _, c0, ?_⟩
    refine cond_dec (fun hle => ?_) (fun hgt => ?_)
    · rw [if_pos (.inl hle)] at hr
      exact hE w hr.symm hb
    · have hw : Within (setL (l.take k)) n := setL_within fun y hy => (hin y hy).2
      obtain ⟨x, hxe⟩ : ∃ x : Nat, l[k] = x := ⟨l[k].toNat, by omega⟩
      rw [hxe] at hr et hgt hik ⊢
      have hnot : setL (l.take k) x = false := by
        unfold setL
        refine decide_eq_false fun hmem => ?_
        have := (hin _ hmem).1
        omega
      obtain ⟨t, q, G, rfl, g1, g2, g3, g4, rfl⟩ := h
      refine ⟨_, rfl, _, g2.cell' (j := 0) rfl, set_Set_Add_c g3 hw hik fun w1 h3 k3 => ⟨_, rfl, ?_⟩⟩
      have hb1 := hb.trans (k3.below hb.size fun i hi hg => by have := (g3.lt hg).1; omega)
      by_cases hxn : x < n
      · have hc : canPut (setL (l.take k)) n (x : Int) true = true := by unfold canPut; rw [Int.toNat_natCast, hnot, decide_eq_true (by omega), decide_eq_true (by omega)]; rfl
        have es : putS (setL (l.take k)) n (x : Int) true = setL (l.take (k + 1)) := by unfold putS; rw [if_pos hc, Int.toNat_natCast, setL_snoc, et]
        rw [hc]
        rw [es] at h3
        rw [if_neg (by omega)] at hr
        show span_Of.l0 K (d + 1) _ (x : Int) (some a) m c m (IntKind.wrap .i64 ((k : Int) + 1)) w1
        rw [cst k (by omega)]
        refine ih (k + 1) x w1 (by omega) (by omega) (by omega) (fun y hy => ?_) hr hb1 ⟨t, q, G, rfl, g1, g2.kp k3 g4, h3, g4, rfl⟩
        rw [et] at hy
        rcases List.mem_append.1 hy with hy | hy
        · have := hin y hy; exact ⟨by omega, this.2⟩
        · obtain rfl := List.mem_singleton.1 hy
          exact ⟨Int.le_refl _, by omega⟩
      · have hc : canPut (setL (l.take k)) n (x : Int) true = false := by unfold canPut; rw [decide_eq_false (show ¬ (x : Int) < n by omega)]; simp
        rw [hc]
        rw [if_pos (.inr (by omega))] at hr
        exact hE w1 hr.symm hb1
theorem span_Of_c {A : Option Addr} {m c : Nat} (hpg : I64 pg) (hcl : I64 cl) (hsize : I64 size) (hx : Cs w A (nums .i64 l)) (hm : m = l.length) (hml : m ≤ 1000000000000000) (hi : ∀ x ∈ l, I64 x)
    (hE : ∀ w', ofErr pg cl size l ≠ 0 → Below w.heap.size w w' → K (.tuple #[.pointer none, .int .i64 (ofErr pg cl size l)]) w')
    (hK : ∀ w' p F, ofErr pg cl size l = 0 → newErr pg cl size = 0 → riseV (slotsN cl) (-1) l = true → SpanV w' w.heap.size p pg (pagesOf cl size) cl (spSize cl size) (slotsN cl) (setL l) F → Within (setL l) (slotsN cl) → Below w.heap.size w w' → K (.tuple #[.pointer p, .int .i64 0]) w') :
    CallsE Pg span_Of.N #[.agg #[.int .i64 pg, .int .i64 cl, .int .i64 size, .slice A m c]] w K := by
  refine span_Of.ok (wlet_intro fun w1 e1 => ?_)
  have b1 : Below w.heap.size w w1 := by rw [e1]; exact (Below.refl _ _).alloc (Nat.le_refl _) _
  have hB1 : Blk w1 w.heap.size Ty.api_Span [.int .i64 pg, .int .i64 cl, .int .i64 size, .slice A m c] := by rw [e1]; exact Blk.new w _ _
  clear e1
  refine ⟨_, hB1.cell' (j := 0) rfl, _, hB1.cell' (j := 1) rfl, _, hB1.cell' (j := 2) rfl, ?_⟩
  refine span_New_c hpg hcl hsize (fun w2 he b2 => ⟨_, _, rfl, ?_⟩) (fun w2 p F he h b2 => ⟨_, _, rfl, ?_⟩)
  · have e : ofErr pg cl size l = newErr pg cl size := by unfold ofErr; rw [if_pos he]
    rw [e] at hE
    exact cond_ne (fun _ => hE w2 he (b1.trans (b2.mono b1.size))) (fun h => absurd h he)
  · have b2' := b1.trans (b2.mono b1.size)
    refine cond_ne (fun h => absurd rfl h) (fun _ => ?_)
    refine ⟨_, _, _, (hB1.kp (Kp.of_below b2) id).cell' (j := 3) rfl, m + 1, ?_⟩
    have hs := (clsSlots_nat cl).2
    refine of_loop (w0 := w) hx hm hml hi b1.size hs (fun w' hr hb => ?_) (fun w' hr h' hw hb => ?_) m 0 (-1) w2 (by omega) (by decide) (by decide) (fun y hy => by cases hy) rfl b2' (by rw [List.take_zero, setL_nil]; exact h)
    · have e : ofErr pg cl size l = 4 := by unfold ofErr; rw [if_neg (by rw [he]; decide), hr]; rfl
      rw [e] at hE
      exact hE w' (by decide) hb
    · have e : ofErr pg cl size l = 0 := by unfold ofErr; rw [if_neg (by rw [he]; decide), hr]; rfl
      exact hK w' p F e he hr (h'.base b1.size) hw hb
theorem rof_loop {A : Option Addr} {m c g1 : Nat} {u0 u1 u2 : Value} (hx : Cs w0 A (nums .i64 l)) (hm : m = l.length) (hml : m ≤ 1000000000000000) (hi : ∀ x ∈ l, I64 x) (hb0 : w0.heap.size ≤ b) (hn : n ≤ 16) (hF : ∀ i, F i → i ≠ g1)
    (hE : ∀ w', riseV n (-1) l = false → Below w0.heap.size w0 w' → K (.tuple #[.pointer none, .int .i64 4]) w')
    (hK : ∀ w', riseV n (-1) l = true → Ref10V w' b p pg cl by' n (setL l) F → Below w0.heap.size w0 w' → K (.tuple #[.pointer p, .int .i64 0]) w') :
    ∀ (d k : Nat) (last : Int) (w : World), k + d = m → -1 ≤ last → (k = 0 ∧ last = -1 ∨ 0 < k ∧ 0 ≤ last ∧ l[k - 1]? = some last) → (∀ y ∈ l.take k, y ≤ last ∧ y < (n : Int)) → riseV n last (l.drop k) = riseV n (-1) l → Below w0.heap.size w0 w → Blk w g1 Ty.api_Span [u0, u1, u2, .slice A m c] → Ref10V w b p pg cl by' n (setL (l.take k)) F → ref10_Of.l0 K (d + 1) ⟨g1, 0, none⟩ p A m c m k w := by
  intro d
  induction d with
  | zero =>
    intro k last w hk h0 hp hin hr hb hB h
    rw [ref10_Of.l0_succ]
    show condP (decide ((k : Int) < _)) _ _
    refine cond_dec (fun h => by omega) (fun _ => ?_)
    rw [List.drop_of_length_le (by omega), riseV] at hr
    rw [List.take_of_length_le (by omega)] at h
    exact hK w hr.symm h hb
  | succ d ih =>
    intro k last w hk h0 hp hin hr hb hB h
    rw [ref10_Of.l0_succ]
    show condP (decide ((k : Int) < _)) _ _
    refine cond_dec (fun _ => ?_) (fun h => absurd h (by omega))
    have hlt : k < l.length := by omega
    have hxk : l[k]? = some l[k] := List.getElem?_eq_getElem hlt
    have hik := hi _ (List.getElem_mem hlt)
    obtain ⟨a, rfl, c0⟩ := (hx.below hb).at (nums_at hxk)
    rw [List.drop_eq_getElem_cons hlt, riseV] at hr
    have et : l.take (k + 1) = l.take k ++ [l[k]] := take_snoc hxk
    unfold ref10_Of.p5
    rw [Int.toNat_natCast]
    refine ⟨⟨by omega, by omega⟩, a, rfl, _, c0, ?_⟩
    have bad : (l[k] ≤ last ∨ (n : Int) ≤ l[k]) → K (.tuple #[.pointer none, .int .i64 4]) w := fun hbad => by
      rw [if_pos hbad] at hr
      exact hE w hr.symm hb
    refine cond_dec (fun hneg => bad (.inl (by omega))) (fun hge => ?_)
    obtain ⟨t, g, rfl, h1, h2, h3, h4, h5, h6, rfl⟩ := h
    refine ⟨_, rfl, _, _, _, h4.cell' (j := 3) rfl, cond_dec (fun hbig => bad (.inr hbig)) (fun hlt2 => ?_)⟩
    obtain ⟨x, hxe⟩ : ∃ x : Nat, l[k] = x := ⟨l[k].toNat, by omega⟩
    rw [hxe] at hr et hge hlt2 hik bad ⊢
    have good : ¬ ((x : Int) ≤ last) → ref10_Of.p7 (ref10_Of.l0 K (d + 1)) K ⟨g1, 0, none⟩ (some ⟨t, 0, none⟩) x (some a) m c m k false w := fun hgt => by
      rw [if_neg (by omega)] at hr
      show ref10_Of.p8 (ref10_Of.l0 K (d + 1)) K ⟨g1, 0, none⟩ (some ⟨t, 0, none⟩) x (some a) m c m k w
      unfold ref10_Of.p8
      rw [Int.toNat_natCast]
      refine ⟨_, rfl, _, _, _, h4.cell' (j := 3) rfl, ⟨by omega, by omega⟩, _, rfl, ?_⟩
      refine blk_set1 (k := x) h5 (by rw [bools_len, ins_len]; omega) fun w' hB' hk' _ => ?_
      rw [bools_set, ins_set (by omega), setL_snoc, ← et] at hB'
      show ref10_Of.l0 K (d + 1) ⟨g1, 0, none⟩ _ (some a) m c m (IntKind.wrap .i64 ((k : Int) + 1)) w'
      rw [cst k (by omega)]
      refine ih (k + 1) x w' (by omega) (by omega) (.inr ⟨by omega, by omega, by rw [Nat.add_sub_cancel, hxk, hxe]⟩) (fun y hy => ?_) hr (hb.trans (hk'.below hb.size fun i hi e => by omega)) (hB.kp hk' (fun e => hF g (.inr rfl) e.symm)) ⟨t, g, rfl, h1, h2, h3, h4.kp hk' (fun e => h3 e.symm), hB', h6, rfl⟩
      rw [et] at hy
      rcases List.mem_append.1 hy with hy | hy
      · have := hin y hy; exact ⟨by omega, this.2⟩
      · obtain rfl := List.mem_singleton.1 hy
        exact ⟨Int.le_refl _, by omega⟩
    refine cond_dec (fun hk0 => ?_) (fun hk0 => ?_)
    · rcases hp with ⟨h, _⟩ | ⟨_, hl0, hprev⟩
      · omega
      · have ek : IntKind.wrap .i64 ((k : Int) - 1) = ((k - 1 : Nat) : Int) := by rw [wrap64_in (by omega) (by omega)]; omega
        obtain ⟨a', e, c1⟩ := (hx.below hb).at (nums_at hprev)
        cases e
        rw [ek, Int.toNat_natCast]
        refine ⟨_, _, _, hB.cell' (j := 3) rfl, ⟨by omega, by omega⟩, _, rfl, _, c1, ?_⟩
        by_cases hle : (x : Int) ≤ last
        · rw [decide_eq_true hle]; exact bad (.inl hle)
        · rw [decide_eq_false hle]; exact good hle
    · rcases hp with ⟨_, rfl⟩ | ⟨h, _⟩
      · exact good (by omega)
      · omega
theorem ref10_Of_c {A : Option Addr} {m c : Nat} (hpg : I64 pg) (hcl : I64 cl) (hsize : I64 size) (hx : Cs w A (nums .i64 l)) (hm : m = l.length) (hml : m ≤ 1000000000000000) (hi : ∀ x ∈ l, I64 x)
    (hE : ∀ w', ofErr pg cl size l ≠ 0 → Below w.heap.size w w' → K (.tuple #[.pointer none, .int .i64 (ofErr pg cl size l)]) w')
    (hK : ∀ w' p F, ofErr pg cl size l = 0 → Ref10V w' w.heap.size p pg cl size (slotsN cl) (setL l) F → Below w.heap.size w w' → K (.tuple #[.pointer p, .int .i64 0]) w') :
    CallsE Pg ref10_Of.N #[.agg #[.int .i64 pg, .int .i64 cl, .int .i64 size, .slice A m c]] w K := by
  refine ref10_Of.ok (wlet_intro fun w1 e1 => ?_)
  have b1 : Below w.heap.size w w1 := by rw [e1]; exact (Below.refl _ _).alloc (Nat.le_refl _) _
  have hB1 : Blk w1 w.heap.size Ty.api_Span [.int .i64 pg, .int .i64 cl, .int .i64 size, .slice A m c] := by rw [e1]; exact Blk.new w _ _
  clear e1
  refine ⟨_, hB1.cell' (j := 0) rfl, _, hB1.cell' (j := 1) rfl, _, hB1.cell' (j := 2) rfl, ?_⟩
  refine ref10_New_c hpg hcl hsize (fun he => ⟨_, _, rfl, ?_⟩) (fun w2 p F he h b2 => ⟨_, _, rfl, ?_⟩)
  · have e : ofErr pg cl size l = newErr pg cl size := by unfold ofErr; rw [if_pos he]
    rw [e] at hE
    exact cond_ne (fun _ => hE w1 he b1) (fun h => absurd h he)
  · have b2' := b1.trans (b2.mono b1.size)
    refine cond_ne (fun h => absurd rfl h) (fun _ => ?_)
    have hB2 := hB1.kp (Kp.of_below b2) id
    refine ⟨_, _, _, hB2.cell' (j := 3) rfl, m + 1, ?_⟩
    have hs := (clsSlots_nat cl).2
    have hl1 := hB1.lt
    have hF0 : ∀ i, F i → i ≠ w.heap.size := fun i hi => by have := (h.lt hi).1; omega
    refine rof_loop (w0 := w) (g1 := w.heap.size) hx hm hml hi b1.size hs hF0 (fun w' hr hb => ?_) (fun w' hr h' hb => ?_) m 0 (-1) w2 (by omega) (by decide) (.inl ⟨rfl, rfl⟩) (fun y hy => by cases hy) rfl b2' hB2 (by rw [List.take_zero, setL_nil]; exact h)
    · have e : ofErr pg cl size l = 4 := by unfold ofErr; rw [if_neg (by rw [he]; decide), hr]; rfl
      rw [e] at hE
      exact hE w' (by decide) hb
    · have e : ofErr pg cl size l = 0 := by unfold ofErr; rw [if_neg (by rw [he]; decide), hr]; rfl
      exact hK w' p F e (h'.base b1.size) hb
end
/-- The first places are in. -/
def ltS (i : Nat) : Nat → Bool := fun j => decide (j < i)
theorem free_lt {i n : Nat} (h : i < n) : freeV (ltS i) n = i := by
  unfold freeV
  have := nxt_skip (S := ltS i) (want := false) (n := n) (g := i) i 0 (by omega) (fun j _ h2 => by unfold ltS; rw [decide_eq_true h2]; decide)
  rw [Nat.sub_zero] at this
  rw [this]
  exact nxt_here (S := ltS i) (want := false) h (by unfold ltS; rw [decide_eq_false (by omega)])
theorem take_lt {i n : Nat} (h : i < n) : takeS (ltS i) n = ltS (i + 1) ∧ takeV (ltS i) n = ((i : Int), true) := by
  unfold takeS takeV
  rw [free_lt h, if_neg (by omega), if_neg (by omega), Int.toNat_natCast]
  refine ⟨funext fun j => ?_, rfl⟩
  unfold upd ltS
  by_cases hj : j = i
  · rw [if_pos hj, decide_eq_true (by omega)]
  · rw [if_neg hj]; exact decide_eq_decide.2 (by omega)
theorem rise_mem {n : Nat} {S : Nat → Bool} : ∀ (k b : Nat) (last : Int), last < (b : Int) → b + k ≤ n → riseV n last (memL S b k) = true
  | 0, _, _, _, _ => rfl
  | k + 1, b, last, h, hn => by
    rw [memL]
    split
    · rw [riseV, if_neg (by omega)]
      exact rise_mem k (b + 1) b (by omega) (by omega)
    · exact rise_mem k (b + 1) last (by omega) (by omega)
theorem mem_iff {S : Nat → Bool} : ∀ (k b i : Nat), (i : Int) ∈ memL S b k ↔ b ≤ i ∧ i < b + k ∧ S i = true
  | 0, b, i => by simp [memL]; omega
  | k + 1, b, i => by
    have ih := mem_iff (S := S) k (b + 1) i
    rw [memL]
    cases hs : S b with
    | true =>
      rw [if_pos rfl, List.mem_cons, ih]
      constructor
      · rintro (h | h)
        · have e : i = b := by omega
          exact ⟨by omega, by omega, by rw [e]; exact hs⟩
        · exact ⟨by omega, by omega, h.2.2⟩
      · rintro ⟨h1, h2, h3⟩
        by_cases e : i = b
        · exact .inl (by omega)
        · exact .inr ⟨by omega, by omega, h3⟩
    | false =>
      rw [if_neg (by decide), ih]
      constructor
      · rintro ⟨h1, h2, h3⟩; exact ⟨by omega, by omega, h3⟩
      · rintro ⟨h1, h2, h3⟩
        by_cases e : i = b
        · rw [e, hs] at h3; cases h3
        · exact ⟨by omega, by omega, h3⟩
theorem setL_mem {S : Nat → Bool} {n : Nat} (hS : Within S n) : setL (memL S 0 n) = S := funext fun i => by
  unfold setL
  cases hs : S i with
  | true =>
    refine decide_eq_true ((mem_iff n 0 i).2 ⟨by omega, ?_, hs⟩)
    by_cases h : i < n
    · omega
    · rw [hS i (by omega)] at hs; cases hs
  | false => exact decide_eq_false fun h => by rw [((mem_iff n 0 i).1 h).2.2] at hs; cases hs
theorem rise_all {n : Nat} : ∀ (l : List Int) (last : Int), riseV n last l = true → ∀ x ∈ l, last < x ∧ x < (n : Int)
  | [], _, _ => fun x hx => by cases hx
  | y :: l, last, h => by
    rw [riseV] at h
    by_cases hb : y ≤ last ∨ (n : Int) ≤ y
    · rw [if_pos hb] at h; cases h
    rw [if_neg hb] at h
    intro x hx
    rcases List.mem_cons.1 hx with rfl | hx
    · exact ⟨by omega, by omega⟩
    · have := rise_all l y h x hx
      exact ⟨by omega, this.2⟩
theorem memL_same {S T : Nat → Bool} : ∀ (k b : Nat), (∀ i, b ≤ i → i < b + k → S i = T i) → memL S b k = memL T b k
  | 0, _, _ => rfl
  | k + 1, b, h => by rw [memL, memL, h b (by omega) (by omega), memL_same k (b + 1) (fun i h1 h2 => h i (by omega) (by omega))]
theorem memL_none : ∀ (k b : Nat), memL noneS b k = []
  | 0, _ => rfl
  | k + 1, b => by rw [memL]; exact memL_none k (b + 1)
/-- The list of the set of a rising list is that list. -/
theorem mem_setL {n : Nat} : ∀ (l : List Int) (b : Nat), b ≤ n → riseV n ((b : Int) - 1) l = true → memL (setL l) b (n - b) = l
  | [], b, _, _ => by rw [setL_nil]; exact memL_none _ _
  | y :: l, b, hb, h => by
    rw [riseV] at h
    by_cases hbad : y ≤ (b : Int) - 1 ∨ (n : Int) ≤ y
    · rw [if_pos hbad] at h; cases h
    rw [if_neg hbad] at h
    obtain ⟨x, rfl⟩ := Int.eq_ofNat_of_zero_le (show 0 ≤ y by omega)
    have hall := rise_all l x h
    have low : ∀ i, i < x → setL ((x : Int) :: l) i = false := fun i hi => by
      unfold setL
      refine decide_eq_false fun hm => ?_
      rcases List.mem_cons.1 hm with h1 | h1
      · omega
      · have := hall _ h1; omega
    have skip : ∀ (d f : Nat), f + d = x → b ≤ f → memL (setL ((x : Int) :: l)) f (n - f) = memL (setL ((x : Int) :: l)) x (n - x) := by
      intro d
      induction d with
      | zero => intro f hf _; have e : f = x := by omega
                rw [e]
      | succ d ih =>
        intro f hf hbf
        obtain ⟨k, hk⟩ : ∃ k, n - f = k + 1 := ⟨n - f - 1, by omega⟩
        have hk2 : k = n - (f + 1) := by omega
        rw [hk, memL, low f (by omega), if_neg (by decide), hk2]
        exact ih (f + 1) (by omega) (by omega)
    rw [skip (x - b) b (by omega) (Nat.le_refl _)]
    obtain ⟨k, hk⟩ : ∃ k, n - x = k + 1 := ⟨n - x - 1, by omega⟩
    have hk2 : k = n - (x + 1) := by omega
    have hx : setL ((x : Int) :: l) x = true := by unfold setL; simp
    rw [hk, memL, hx, if_pos rfl, hk2]
    have ih := mem_setL (n := n) l (x + 1) (by omega) (by rw [show (((x + 1 : Nat) : Int) - 1) = (x : Int) from by omega]; exact h)
    have es : memL (setL ((x : Int) :: l)) (x + 1) (n - (x + 1)) = memL (setL l) (x + 1) (n - (x + 1)) := memL_same _ _ fun i h1 h2 => by
      unfold setL
      refine decide_eq_decide.2 ?_
      rw [List.mem_cons]
      constructor
      · rintro (h3 | h3)
        · omega
        · exact h3
      · exact .inr
    rw [es, ih]
theorem len_nil {w : World} {K : Value → World → Prop} (h : K (.int .i64 0) w) : CallsE Pg set_Set_Len.N #[.pointer none] w K := set_Set_Len.ok (condP_t h)

end Go.Proofs.YtklmaeefnmcmlaaDoor.C
