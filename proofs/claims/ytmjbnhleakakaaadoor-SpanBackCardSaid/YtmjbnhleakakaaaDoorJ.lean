/-
  Parts of the proofs of this seat: what the functions compute. No condition beyond what each theorem states.
-/
import Derived.Test.YtmjbnhleakakaaaDoorF
import Derived.Test.YtmjbnhleakakaaaDoorRK
import Derived.Test.YtmjbnhleakakaaaDoorA
import Derived.Test.YtmjbnhleakakaaaDoorB
import Derived.Test.YtmjbnhleakakaaaDoorC
import Derived.Test.YtmjbnhleakakaaaDoorD
import Derived.Test.YtmjbnhleakakaaaDoorG
import Derived.Test.YtmjbnhleakakaaaDoorH
import Derived.Test.YtmjbnhleakakaaaDoorI
set_option linter.unusedVariables false
set_option linter.unusedSimpArgs false
set_option maxRecDepth 100000
namespace Go.Proofs.YtmjbnhleakakaaaDoor.C
open Go Go.RowKit Go.Proofs.YtmjbnhleakakaaaDoor Go.Proofs.YtmjbnhleakakaaaDoor.Sh Go.Proofs.YtmjbnhleakakaaaDoor.F Go.Proofs.YtmjbnhleakakaaaDoor.R

/-! ### SpanBack -/
theorem rise_mem {n : Nat} {S : Nat → Bool} : ∀ (k b : Nat) (last : Int), last < (b : Int) → b + k ≤ n → riseV n last (memL S b k) = true
  | 0, _, _, _, _ => rfl
  | k + 1, b, last, h, hn => by
    rw [memL]
    split
    · rw [riseV, if_neg (by omega)]
      exact rise_mem k (b + 1) b (by omega) (by omega)
    · exact rise_mem k (b + 1) last (by omega) (by omega)
theorem mem_iff {S : Nat → Bool} : ∀ (k b i : Nat), (i : Int) ∈ memL S b k ↔ b ≤ i ∧ i < b + k ∧ S i = true
  | 0, b, i => by simp [memL]; omega
  | k + 1, b, i => by
    have ih := mem_iff (S := S) k (b + 1) i
    rw [memL]
    cases hs : S b with
    | true =>
      rw [if_pos rfl, List.mem_cons, ih]
      constructor
      · rintro (h | h)
        · have e : i = b := by omega
          exact ⟨by omega, by omega, by rw [e]; exact hs⟩
        · exact ⟨by omega, by omega, h.2.2⟩
      · rintro ⟨h1, h2, h3⟩
        by_cases e : i = b
        · exact .inl (by omega)
        · exact .inr ⟨by omega, by omega, h3⟩
    | false =>
      rw [if_neg (by decide), ih]
      constructor
      · rintro ⟨h1, h2, h3⟩; exact ⟨by omega, by omega, h3⟩
      · rintro ⟨h1, h2, h3⟩
        by_cases e : i = b
        · rw [e, hs] at h3; cases h3
        · exact ⟨by omega, by omega, h3⟩
theorem setL_mem {S : Nat → Bool} {n : Nat} (hS : Within S n) : setL (memL S 0 n) = S := funext fun i => by
  unfold setL
  cases hs : S i with
  | true =>
    refine decide_eq_true ((mem_iff n 0 i).2 ⟨by omega, ?_, hs⟩)
    by_cases h : i < n
    · omega
    · rw [hS i (by omega)] at hs; cases hs
  | false => exact decide_eq_false fun h => by rw [((mem_iff n 0 i).1 h).2.2] at hs; cases hs
theorem rise_all {n : Nat} : ∀ (l : List Int) (last : Int), riseV n last l = true → ∀ x ∈ l, last < x ∧ x < (n : Int)
  | [], _, _ => fun x hx => by cases hx
  | y :: l, last, h => by
    rw [riseV] at h
    by_cases hb : y ≤ last ∨ (n : Int) ≤ y
    · rw [if_pos hb] at h; cases h
    rw [if_neg hb] at h
    intro x hx
    rcases List.mem_cons.1 hx with rfl | hx
    · exact ⟨by omega, by omega⟩
    · have := rise_all l y h x hx
      exact ⟨by omega, this.2⟩
theorem memL_same {S T : Nat → Bool} : ∀ (k b : Nat), (∀ i, b ≤ i → i < b + k → S i = T i) → memL S b k = memL T b k
  | 0, _, _ => rfl
  | k + 1, b, h => by rw [memL, memL, h b (by omega) (by omega), memL_same k (b + 1) (fun i h1 h2 => h i (by omega) (by omega))]
theorem memL_none : ∀ (k b : Nat), memL noneS b k = []
  | 0, _ => rfl
  | k + 1, b => by rw [memL]; exact memL_none k (b + 1)
/-- The list of the set of a rising list is that list. -/
theorem mem_setL {n : Nat} : ∀ (l : List Int) (b : Nat), b ≤ n → riseV n ((b : Int) - 1) l = true → memL (setL l) b (n - b) = l
  | [], b, _, _ => by rw [setL_nil]; exact memL_none _ _
  | y :: l, b, hb, h => by
    rw [riseV] at h
    by_cases hbad : y ≤ (b : Int) - 1 ∨ (n : Int) ≤ y
    · rw [if_pos hbad] at h; cases h
    rw [if_neg hbad] at h
    obtain ⟨x, rfl⟩ := Int.eq_ofNat_of_zero_le (show 0 ≤ y by omega)
    have hall := rise_all l x h
    have low : ∀ i, i < x → setL ((x : Int) :: l) i = false := fun i hi => by
      unfold setL
      refine decide_eq_false fun hm => ?_
      rcases List.mem_cons.1 hm with h1 | h1
      · omega
      · have := hall _ h1; omega
    have skip : ∀ (d f : Nat), f + d = x → b ≤ f → memL (setL ((x : Int) :: l)) f (n - f) = memL (setL ((x : Int) :: l)) x (n - x) := by
      intro d
      induction d with
      | zero => intro f hf _; have e : f = x := by omega
                rw [e]
      | succ d ih =>
        intro f hf hbf
        obtain ⟨k, hk⟩ : ∃ k, n - f = k + 1 := ⟨n - f - 1, by omega⟩
        have hk2 : k = n - (f + 1) := by omega
        rw [hk, memL, low f (by omega), if_neg (by decide), hk2]
        exact ih (f + 1) (by omega) (by omega)
    rw [skip (x - b) b (by omega) (Nat.le_refl _)]
    obtain ⟨k, hk⟩ : ∃ k, n - x = k + 1 := ⟨n - x - 1, by omega⟩
    have hk2 : k = n - (x + 1) := by omega
    have hx : setL ((x : Int) :: l) x = true := by unfold setL; simp
    rw [hk, memL, hx, if_pos rfl, hk2]
    have ih := mem_setL (n := n) l (x + 1) (by omega) (by rw [show (((x + 1 : Nat) : Int) - 1) = (x : Int) from by omega]; exact h)
    have es : memL (setL ((x : Int) :: l)) (x + 1) (n - (x + 1)) = memL (setL l) (x + 1) (n - (x + 1)) := memL_same _ _ fun i h1 h2 => by
      unfold setL
      refine decide_eq_decide.2 ?_
      rw [List.mem_cons]
      constructor
      · rintro (h3 | h3)
        · omega
        · exact h3
      · exact .inr
    rw [es, ih]
section
variable {w w0 : World} {b : Nat} {p : Option Addr} {pg pgs cl sz size : Int} {n : Nat} {S : Nat → Bool} {F : Nat → Prop} {K : Value → World → Prop}
theorem dspoil_loop {A B : Option Addr} {m c m5 c5 g2 base ne ce : Nat} {E' : Option Addr} {u0 u1 u2 : Value} (hne : ne ≤ 140737488355328) (hg : ∀ g, (Value.slice E' ne ce).ownBlock = some g → g ≠ g2) (hK : ∀ w', Kp (fun i => (Value.slice E' ne ce).ownBlock = some i) w0 w' → law10_SpanBack.p11 K A m c B m5 c5 p w') :
    ∀ (d j : Nat) (w : World) (xs : List Int), j + d = ne → Kp (fun i => (Value.slice E' ne ce).ownBlock = some i) w0 w → Blk w g2 33 [u0, u1, u2, .slice E' ne ce] → w.ownsRow base Ty.int 1 (.slice E' ne ce) ne (nums .i64 xs) → xs.length = ne → law10_SpanBack.l0 K (d + 1) A m c ⟨g2, 0, none⟩ B m5 c5 p ne j w := by
  intro d
  induction d with
  | zero =>
    intro j w xs hj hk hB ho hl
    rw [law10_SpanBack.l0_succ]
    exact cond_dec (fun h => by omega) (fun _ => hK w hk)
  | succ d ih =>
    intro j w xs hj hk hB ho hl
    rw [law10_SpanBack.l0_succ]
    refine cond_dec (fun _ => ?_) (fun h => absurd h (by omega))
    have hxj : xs[j]? = some xs[j] := List.getElem?_eq_getElem (by omega)
    obtain ⟨a, rfl, c0⟩ := (Cs.ofOwn ho).at (nums_at hxj)
    refine ⟨_, _, _, hB.cell' (j := 3) rfl, ⟨by omega, by omega⟩, a, rfl, ?_⟩
    refine own_set1 (k := j) ho (by rw [nums_len]; omega) fun w' ho' hk' _ => ?_
    rw [nums_set] at ho'
    have hag := hg a.block rfl
    rw [cst j (by omega)]
    exact ih (j + 1) w' _ (by omega) (hk.trans hk' (fun _ _ h => h) (fun i _ e => by rw [e]; rfl)) (hB.kp hk' (fun e => hag e.symm)) ho' (by simpa using hl)
theorem xspoil_loop {A B : Option Addr} {m c m5 c5 g2 base ne ce : Nat} {E' : Option Addr} {u0 u1 u2 : Value} (hne : ne ≤ 140737488355328) (hg : ∀ g, (Value.slice E' ne ce).ownBlock = some g → g ≠ g2) (hK : ∀ w', Kp (fun i => (Value.slice E' ne ce).ownBlock = some i) w0 w' → law10_SpanBack.p14 K A m c B m5 c5 p w') :
    ∀ (d j : Nat) (w : World) (xs : List Int), j + d = ne → Kp (fun i => (Value.slice E' ne ce).ownBlock = some i) w0 w → Blk w g2 33 [u0, u1, u2, .slice E' ne ce] → w.ownsRow base Ty.int 1 (.slice E' ne ce) ne (nums .i64 xs) → xs.length = ne → law10_SpanBack.l1 K (d + 1) A m c B m5 c5 p ⟨g2, 0, none⟩ ne j w := by
  intro d
  induction d with
  | zero =>
    intro j w xs hj hk hB ho hl
    rw [law10_SpanBack.l1_succ]
    exact cond_dec (fun h => by omega) (fun _ => hK w hk)
  | succ d ih =>
    intro j w xs hj hk hB ho hl
    rw [law10_SpanBack.l1_succ]
    refine cond_dec (fun _ => ?_) (fun h => absurd h (by omega))
    have hxj : xs[j]? = some xs[j] := List.getElem?_eq_getElem (by omega)
    obtain ⟨a, rfl, c0⟩ := (Cs.ofOwn ho).at (nums_at hxj)
    refine ⟨_, _, _, hB.cell' (j := 3) rfl, ⟨by omega, by omega⟩, a, rfl, ?_⟩
    refine own_set1 (k := j) ho (by rw [nums_len]; omega) fun w' ho' hk' _ => ?_
    rw [nums_set] at ho'
    have hag := hg a.block rfl
    rw [cst j (by omega)]
    exact ih (j + 1) w' _ (by omega) (hk.trans hk' (fun _ _ h => h) (fun i _ e => by rw [e]; rfl)) (hB.kp hk' (fun e => hag e.symm)) ho' (by simpa using hl)
theorem back_turns {A : Option Addr} {m c : Nat} {cl' : List SCall} (hT : Tab w0) (hx : Cs w0 A (cl'.flatMap SCall.cells)) (hm : m = cl'.length) (hok : ∀ x ∈ cl', SCallOk x) (hb0 : w0.heap.size ≤ b)
    (hK : ∀ w' S', Below w0.heap.size w0 w' → SpanV w' b p pg pgs cl sz n S' F → Within S' n → law10_SpanBack.p20 K p w') :
    ∀ (d k : Nat) (w : World) (S : Nat → Bool), k + d = 100 → Below w0.heap.size w0 w → SpanV w b p pg pgs cl sz n S F → Within S n → law10_SpanBack.l2 K (d + 1) A m c p k w := by
  intro d
  induction d with
  | zero =>
    intro k w S hk hb h hS
    rw [law10_SpanBack.l2_succ]
    refine cond_dec (fun _ => ?_) (fun _ => hK w S hb h hS)
    rw [decide_eq_false (by omega)]
    exact hK w S hb h hS
  | succ d ih =>
    intro k w S hk hb h hS
    rw [law10_SpanBack.l2_succ]
    refine cond_dec (fun hlt => ?_) (fun _ => hK w S hb h hS)
    rw [decide_eq_true (by omega)]
    have hlen : k < cl'.length := by omega
    have hxk : cl'[k]? = some cl'[k] := List.getElem?_eq_getElem hlen
    have hc := hok _ (List.getElem_mem hlen)
    obtain ⟨a, rfl, c0, c1⟩ := scall_at (hx.below hb) hxk
    refine ⟨⟨by omega, by omega⟩, a, rfl, _, c0, ?_⟩
    have next : ∀ w1 S1, Kp F w w1 → SpanV w1 b p pg pgs cl sz n S1 F → Within S1 n → law10_SpanBack.p19 (law10_SpanBack.l2 K (d + 1)) K (some a) m c p k w1 := fun w1 S1 k1 h1 hS1 => by
      show law10_SpanBack.l2 K (d + 1) (some a) m c p (IntKind.wrap .i64 ((k : Int) + 1)) w1
      rw [cst k (by omega)]
      exact ih (k + 1) w1 S1 (by omega) (hb.trans (h.under hb0 hb.size k1)) h1 hS1
    refine cond_eq (fun _ => ?_) (fun _ => ?_)
    · exact span_Span_Take_c h hS (hT.below hb hT.lt) fun w1 h1 k1 => ⟨_, _, rfl, next w1 _ k1 h1 (takeS_within hS)⟩
    · refine ⟨⟨by omega, by omega⟩, a, rfl, _, c1, ?_⟩
      exact span_Span_Give_c h hS hc.2 fun w1 h1 k1 => ⟨_, rfl, next w1 _ k1 h1 (putS_within hS)⟩
theorem back_end (h : SpanV w b p pg (pagesOf cl size) cl (spSize cl size) (slotsN cl) S F) (hS : Within S (slotsN cl)) (hT : Tab w) (hpg : I64 pg) (hcl : I64 cl) (hsize : I64 size) (he : newErr pg cl size = 0) (hbw : Below w0.heap.size w0 w) (hK : ∀ w', Below w0.heap.size w0 w' → K (.bool true) w') : law10_SpanBack.p20 K p w := by
  obtain ⟨_, _, _, _, _, _, _, _, _, _, _, h0s⟩ := new_ok he
  have eds : dSize cl (spSize cl size) = size := by
    unfold dSize spSize
    by_cases h7 : cl = 7
    · rw [if_pos h7, if_pos h7]
    · rw [if_neg h7, h0s h7]
  have hs := (clsSlots_nat cl).2
  have hml := @memL_le S 0 (slotsN cl)
  have hr : riseV (slotsN cl) (-1) (memL S 0 (slotsN cl)) = true := rise_mem _ 0 (-1) (by decide) (by omega)
  have e0 : ofErr pg cl size (memL S 0 (slotsN cl)) = 0 := by unfold ofErr; rw [if_neg (by rw [he]; decide), hr]; rfl
  refine span_Span_Data_c h hT fun A4 m4 c4 w4 hm4 o4 b4 => ⟨_, _, _, _, _, _, rfl, ?_⟩
  rw [eds]
  have T4 := hT.below b4 hT.lt
  refine span_Of_c hpg hcl hsize (Cs.ofOwn o4) hm4 (by omega) (fun x hx => ?_) (fun w5 he5 _ => absurd e0 he5) (fun w5 p5 F5 _ _ _ h5 hS5 b5 => ⟨_, _, rfl, ?_⟩)
  · have := rise_all _ _ hr x hx
    exact ⟨by omega, by omega⟩
  rw [setL_mem hS] at h5
  have b5' := b4.trans (b5.mono b4.size)
  refine condP_t ?_
  refine span_Span_Data_c h5 (hT.below b5' hT.lt) fun A6 m6 c6 w6 hm6 o6 b6 => ⟨_, _, _, _, _, _, rfl, ?_⟩
  have b6' := b5'.trans (b6.mono b5'.size)
  refine span_Span_Data_c (h.below b6') (hT.below b6' hT.lt) fun A7 m7 c7 w7 hm7 o7 b7 => ⟨_, _, _, _, _, _, rfl, ?_⟩
  have b7' := b6'.trans (b7.mono b6'.size)
  refine ref10_Same_c (Cs.ofOwn (own_below_kp o6 b7)) (Cs.ofOwn o7) hm6 hm7 (by omega) fun w8 b8 => ⟨_, rfl, ?_⟩
  exact hK w8 (hbw.trans ((b7'.trans (b8.mono b7'.size)).mono hbw.size))
end
theorem law_SpanBack (w : World) (hT : Tab w) (cs0 : List Value) (h0 : RdSpan w cs0) (A : Option Addr) (m c : Nat) (hz : RdSlice 16 2 RdSCall w [.slice A m c]) : CallsE Pg law10_SpanBack.N #[.agg ⟨cs0⟩, .slice A m c] w (fun v w' => v = .bool true ∧ Below w.heap.size w w') := by
  obtain ⟨pg, cl, size, A0, m0, c0, l, rfl, ipg, icl, isz, hy, hm0, hml, hi⟩ := rdspan_of h0
  obtain ⟨cl', hx, hm, hsb, hok⟩ := list_of (f := SCall.cells) hz (fun cs h => scall_of h)
  refine law10_SpanBack.ok (q0_0 := pg) (q0_1 := cl) (q0_2 := size) (q0_3A := A0) (q0_3n := m0) (q0_3c := c0) (wlet_intro fun w1 e1 => ?_)
  have b1 : Below w.heap.size w w1 := by rw [e1]; exact (Below.refl _ _).alloc (Nat.le_refl _) _
  have hB1 : Blk w1 w.heap.size 33 [.int .i64 pg, .int .i64 cl, .int .i64 size, .slice A0 m0 c0] := by rw [e1]; exact Blk.new w _ _
  clear e1
  have hl1 := hB1.lt
  refine law10_alive_c (hT.below b1 hT.lt) fun w2 b2 => ⟨_, rfl, condP_nt ?_⟩
  have b2' := b1.trans (b2.mono b1.size)
  have hB2 := hB1.kp (Kp.of_below b2) id
  have s12 := b2.size
  /- the copies: the first -/
  refine wlet_intro fun w3 e3 => ?_
  have b3 : Below w2.heap.size w2 w3 := by rw [e3]; exact (Below.refl _ _).alloc (Nat.le_refl _) _
  have hn3 : w3.ownsRow w2.heap.size Ty.int 1 (.slice (some ⟨w2.heap.size, 0, none⟩) 0 0) 0 (nums .i64 []) := by rw [e3]; exact own_new (Nat.le_refl _) (Nat.zero_le _) rfl
  clear e3
  have b3' := b2'.trans (b3.mono b2'.size)
  have hB3 := hB2.kp (Kp.of_below b3) id
  refine ⟨_, _, _, hB3.cell' (j := 3) rfl, ?_⟩
  refine app_i64 hn3 hm0 (hy.below b3') (by omega) b3.size fun A4 c4 w4 o4 m4 => ⟨_, _, _, rfl, ?_⟩
  rw [Nat.zero_add] at o4 ⊢
  rw [List.nil_append] at o4
  have b4 : Below w2.heap.size w2 w4 := b3.trans (m4.kp.below b3.size fun i hi e => by cases e; exact absurd hi (Nat.lt_irrefl _))
  have b4' := b2'.trans (b4.mono b2'.size)
  have hB4 := hB2.kp (Kp.of_below b4) id
  have s24 := b4.size
  /- the second -/
  refine wlet_intro fun w5 e5 => ?_
  have b5 : Below w4.heap.size w4 w5 := by rw [e5]; exact (Below.refl _ _).alloc (Nat.le_refl _) _
  have hn5 : w5.ownsRow w4.heap.size Ty.int 1 (.slice (some ⟨w4.heap.size, 0, none⟩) 0 0) 0 (nums .i64 []) := by rw [e5]; exact own_new (Nat.le_refl _) (Nat.zero_le _) rfl
  clear e5
  have b5' := b4'.trans (b5.mono b4'.size)
  refine ⟨_, _, _, (hB4.kp (Kp.of_below b5) id).cell' (j := 3) rfl, ?_⟩
  refine app_i64 hn5 hm0 (hy.below b5') (by omega) b5.size fun A6 c6 w6 o6 m6 => ⟨_, _, _, rfl, ?_⟩
  rw [Nat.zero_add] at o6 ⊢
  rw [List.nil_append] at o6
  have b6 : Below w4.heap.size w4 w6 := b5.trans (m6.kp.below b5.size fun i hi e => by cases e; exact absurd hi (Nat.lt_irrefl _))
  have b6' := b4'.trans (b6.mono b4'.size)
  have hB6 := hB4.kp (Kp.of_below b6) id
  have s46 := b6.size
  have live6 := own_below_kp o4 b6
  refine blk_set1 (k := 3) hB6 (by simp) fun w7 hB7 k7 s7 => ?_
  have hB7 : Blk w7 w.heap.size 33 [.int .i64 pg, .int .i64 cl, .int .i64 size, .slice A6 m0 c6] := hB7
  have b7' := b6'.trans (k7.below b6'.size fun i hi e => by omega)
  have live7 := own_kp live6 k7 (fun g hg e => by have := (own_lt o4 hg).1; omega)
  have o7 := own_kp o6 k7 (fun g hg e => by have := (own_lt o6 hg).1; omega)
  refine ⟨_, hB7.cell' (j := 0) rfl, _, hB7.cell' (j := 1) rfl, _, hB7.cell' (j := 2) rfl, _, _, _, hB7.cell' (j := 3) rfl, ?_⟩
  refine span_Of_c ipg icl isz (Cs.ofOwn o7) hm0 (by omega) hi (fun w8 he b8 => ⟨_, _, rfl, ?_⟩) (fun w8 p F he hne hr h8 hS b8 => ⟨_, _, rfl, ?_⟩)
  · have b8' := b7'.trans (b8.mono b7'.size)
    refine cond_ne (fun _ => ?_) (fun h => absurd h he)
    refine condP_t ⟨_, _, _, (hB7.kp (Kp.of_below b8) id).cell' (j := 3) rfl, ?_⟩
    exact ref01_Ints_c (Cs.ofOwn (own_below_kp o7 b8)) (Cs.ofOwn (own_below_kp live7 b8)) hm0 hm0 (by omega) ⟨_, rfl, rfl, b8'⟩
  · have b8' := b7'.trans (b8.mono b7'.size)
    have s78 := b8.size
    obtain ⟨_, _, _, _, _, _, _, _, _, _, _, h0s⟩ := new_ok hne
    have eds : dSize cl (spSize cl size) = size := by
      unfold dSize spSize
      by_cases h7 : cl = 7
      · rw [if_pos h7, if_pos h7]
      · rw [if_neg h7, h0s h7]
    have hs := (clsSlots_nat cl).2
    have eml : memL (setL l) 0 (slotsN cl) = l := by
      have := mem_setL (n := slotsN cl) l 0 (Nat.zero_le _) hr
      rw [Nat.sub_zero] at this
      exact this
    have hll : l.length ≤ 16 := by have := @memL_le (setL l) 0 (slotsN cl); rw [eml] at this; omega
    have hB8 := hB7.kp (Kp.of_below b8) id
    have hF : ∀ i, F i → w7.heap.size ≤ i ∧ i < w8.heap.size := fun i hi => h8.lt hi
    have live8 := own_below_kp live7 b8
    have o8 := own_below_kp o7 b8
    refine condP_f ?_
    have cells : ∀ (j : Nat) (v : Value), ([.int .i64 pg, .int .i64 cl, .int .i64 size, .slice A6 m0 c6] : List Value)[j]? = some v → ∀ w' : World, w'.heap[w.heap.size]? = some (.cells ⟨[.int .i64 pg, .int .i64 cl, .int .i64 size, .slice A6 m0 c6]⟩ 33 (0, 0)) → w'.cell? ⟨w.heap.size, j, none⟩ = some v := fun j v hv w' hh => Blk.cell' (show Blk w' w.heap.size 33 [.int .i64 pg, .int .i64 cl, .int .i64 size, .slice A6 m0 c6] from hh) hv
    refine ⟨fun H => H[w.heap.size]? = some (.cells ⟨[.int .i64 pg, .int .i64 cl, .int .i64 size, .slice A6 m0 c6]⟩ 33 (0, 0)), hB8, _, cells 0 _ rfl, _, cells 1 _ rfl, _, cells 2 _ rfl, _, _, _, cells 3 _ rfl, ?_⟩
    refine span_Span_Data_c h8 (hT.below b8' hT.lt) fun A9 m9 c9 w9 hm9 o9 b9 => ⟨_, _, _, _, _, _, rfl, hB8.kp (Kp.of_below b9) id, ?_⟩
    have b9' := b8'.trans (b9.mono b8'.size)
    rw [eds]
    rw [eml] at hm9 o9
    refine ref10_Same_c (Cs.ofOwn o9) (Cs.ofOwn (own_below_kp o8 b9)) hm9 hm0 (by omega) fun w10 b10 => ⟨_, rfl, condP_f ?_⟩
    have b810 := b9.trans (b10.mono b9.size)
    have b10' := b9'.trans (b10.mono b9'.size)
    have s810 := b810.size
    have hB10 := hB8.kp (Kp.of_below b810) id
    have o10 := own_below_kp o8 b810
    have live10 := own_below_kp live8 b810
    have h10 := h8.below b810
    refine ⟨_, _, _, hB10.cell' (j := 3) rfl, m0 + 1, ?_⟩
    have hA6 : ∀ g, (Value.slice A6 m0 c6).ownBlock = some g → w4.heap.size ≤ g ∧ g < w6.heap.size := fun g hg => own_lt o6 hg
    have hA4 : ∀ g, (Value.slice A4 m0 c4).ownBlock = some g → w2.heap.size ≤ g ∧ g < w4.heap.size := fun g hg => own_lt o4 hg
    refine dspoil_loop (w0 := w10) (g2 := w.heap.size) (base := w4.heap.size) (by omega) (fun g hg => by have := hA6 g hg; omega) (fun w11 k11 => ?_) m0 0 w10 l (by omega) (Kp.refl _ _) hB10 o10 hm0.symm
    have s1011 := k11.size
    have b11' := b10'.trans (k11.below b10'.size fun i hi e => by have := (hA6 i e).1; omega)
    have h11 := h10.kp k11 (fun i hi e => by have := (hA6 i e).2; have := (hF i hi).1; omega)
    have live11 := own_kp live10 k11 (fun g hg e => by have := (hA6 g e).1; have := (hA4 g hg).2; omega)
    refine span_Span_Data_c h11 (hT.below b11' hT.lt) fun A12 m12 c12 w12 hm12 o12 b12 => ⟨_, _, _, _, _, _, rfl, wlet_intro fun w13 e13 => ?_⟩
    rw [eml] at hm12 o12
    have b12' := b11'.trans (b12.mono b11'.size)
    have s1112 := b12.size
    have b13 : Below w12.heap.size w12 w13 := by rw [e13]; exact (Below.refl _ _).alloc (Nat.le_refl _) _
    have hB13 : Blk w13 w12.heap.size 33 [.int .i64 0, .int .i64 0, .int .i64 0, .slice none 0 0] := by rw [e13]; exact Blk.new w12 _ _
    clear e13
    have b13' := b12'.trans (b13.mono b12'.size)
    have s1213 := b13.size
    have o13 := own_below_kp o12 b13
    have hA12 : ∀ g, (Value.slice A12 m12 c12).ownBlock = some g → w11.heap.size ≤ g ∧ g < w12.heap.size := fun g hg => own_lt o12 hg
    refine st4 hB13 fun w14 hB14 k14 s14 => ?_
    have b14' := b13'.trans (k14.below b13'.size fun i hi e => by have := b12'.size; omega)
    have o14 := own_kp o13 k14 (fun g hg e => by have := (hA12 g hg).2; omega)
    have h14 := ((h11.below b12).below b13).kp k14 (fun i hi e => by have := (hF i hi).2; omega)
    have live14 := own_kp (own_below_kp (own_below_kp live11 b12) b13) k14 (fun g hg e => by have := (hA4 g hg).2; omega)
    refine ⟨_, _, _, hB14.cell' (j := 3) rfl, m12 + 1, ?_⟩
    refine xspoil_loop (w0 := w14) (g2 := w12.heap.size) (base := w11.heap.size) (by omega) (fun g hg => by have := hA12 g hg; omega) (fun w15 k15 => ?_) m12 0 w14 l (by omega) (Kp.refl _ _) hB14 o14 hm12.symm
    have b15' := b14'.trans (k15.below b14'.size fun i hi e => by have := (hA12 i e).1; have := b11'.size; omega)
    have h15 := h14.kp k15 (fun i hi e => by have := (hA12 i e).1; have := (hF i hi).2; omega)
    have live15 := own_kp live14 k15 (fun g hg e => by have := (hA12 g e).1; have := (hA4 g hg).2; omega)
    refine span_Span_Data_c h15 (hT.below b15' hT.lt) fun A16 m16 c16 w16 hm16 o16 b16 => ⟨_, _, _, _, _, _, rfl, ?_⟩
    rw [eml] at hm16 o16
    have b16' := b15'.trans (b16.mono b15'.size)
    refine ref01_Ints_c (Cs.ofOwn o16) (Cs.ofOwn (own_below_kp live15 b16)) hm16 hm0 (by omega) ⟨_, rfl, condP_f ⟨101, ?_⟩⟩
    refine back_turns (w0 := w) hT hx hm hok (Nat.le_refl _) (fun w17 S17 b17 h17 hS17 => ?_) 100 0 w16 (setL l) (by omega) b16' ((h15.below b16).base (by have := b7'.size; omega)) hS
    exact back_end (w0 := w) h17 hS17 (hT.below b17 hT.lt) ipg icl isz hne b17 (fun w' hb => ⟨rfl, hb⟩)

end Go.Proofs.YtmjbnhleakakaaaDoor.C
