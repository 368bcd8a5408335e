/-
  Parts of the proofs of this seat: what the functions compute. No condition beyond what each theorem states.
-/
import Derived.Test.YtebnmecioifijaaDoorF
import Derived.Test.YtebnmecioifijaaDoorRK
import Derived.Test.YtebnmecioifijaaDoorA
import Derived.Test.YtebnmecioifijaaDoorB
import Derived.Test.YtebnmecioifijaaDoorC
import Derived.Test.YtebnmecioifijaaDoorD
import Derived.Test.YtebnmecioifijaaDoorE
import Derived.Test.YtebnmecioifijaaDoorG
import Derived.Test.YtebnmecioifijaaDoorH
set_option linter.unusedVariables false
set_option linter.unusedSimpArgs false
set_option maxRecDepth 100000
namespace Go.Proofs.YtebnmecioifijaaDoor.C
open Go Go.RowKit Go.Proofs.YtebnmecioifijaaDoor Go.Proofs.YtebnmecioifijaaDoor.Sh Go.Proofs.YtebnmecioifijaaDoor.F Go.Proofs.YtebnmecioifijaaDoor.R

/-! ### SetReads, SetBack, SetApart -/
theorem valF_bits {bs : List Int} {j : Nat} {x : Int} (h : bs[j]? = some x) (hx : 0 ≤ x ∧ x ≤ 255) : ((valF (bitsOf bs) (8 * j) 8 : Nat) : Int) = x := by
  obtain ⟨y, rfl⟩ := Int.eq_ofNat_of_zero_le hx.1
  have : valF (bitsOf bs) (8 * j) 8 = y := by
    apply Nat.eq_of_testBit_eq
    intro i
    rw [valF_bit]
    by_cases hi : i < 8
    · rw [decide_eq_true hi, bitsOf_at h hi, Int.toNat_natCast]; rfl
    · rw [decide_eq_false hi]
      refine (Nat.testBit_lt_two_pow ?_).symm
      have : 2 ^ 8 ≤ 2 ^ i := Nat.pow_le_pow_right (by decide) (by omega)
      omega
  rw [this]
theorem bytL_bits {bs : List Int} {n : Nat} (hb : Bytes bs) (hl : bs.length = (n + 7) / 8) : bytL (bitsOf bs) n = bs := by
  apply List.ext_getElem?
  intro i
  by_cases h : i < (n + 7) / 8
  · have hx : bs[i]? = some bs[i] := List.getElem?_eq_getElem (by omega)
    have hv := valF_bits hx (hb _ (List.getElem_mem _))
    rw [hx]
    simp [bytL, h, hv]
  · rw [List.getElem?_eq_none (by rw [bytL_len]; omega), List.getElem?_eq_none (by omega)]
theorem bits_byt {S : Nat → Bool} {n : Nat} (hS : Within S n) : bitsOf (bytL S n) = S := funext fun i => by
  by_cases h : i / 8 < (n + 7) / 8
  · have hx : (bytL S n)[i / 8]? = some ((valF S (8 * (i / 8)) 8 : Nat) : Int) := by simp [bytL, h]
    have := bitsOf_at hx (show i % 8 < 8 by omega)
    have e : 8 * (i / 8) + i % 8 = i := by omega
    rw [e, Int.toNat_natCast, valF_bit, decide_eq_true (by omega), Bool.true_and, e] at this
    exact this
  · rw [bitsOf_end (by rw [bytL_len]; omega), hS i (by omega)]
theorem rdErr_0 {bs : List Int} {n : Int} (h : rdErr bs n = 0) : 0 ≤ n ∧ n ≤ 65536 ∧ bs.length = (n.toNat + 7) / 8 ∧ badB bs n.toNat = false := by
  unfold rdErr at h
  by_cases h1 : n < 0 ∨ 65536 < n
  · rw [if_pos h1] at h; cases h
  rw [if_neg h1] at h
  by_cases h2 : (bs.length : Int) < (n + 7) / 8
  · rw [if_pos h2] at h; cases h
  rw [if_neg h2] at h
  by_cases h3 : (n + 7) / 8 < (bs.length : Int)
  · rw [if_pos h3] at h; cases h
  rw [if_neg h3] at h
  by_cases h4 : badB bs n.toNat = true
  · rw [if_pos h4] at h; cases h
  refine ⟨by omega, by omega, by omega, by simpa using h4⟩
theorem within_bits {bs : List Int} {n : Nat} (h : badB bs n = false) : Within (bitsOf bs) n := fun i hi => by
  cases hb : bitsOf bs i with
  | false => rfl
  | true => rw [bad_of hi hb] at h; cases h
theorem law_SetReads (w : World) (hT : Tab w) (n : Int) (hn : (Lit.int .i64 n).wf = true) (A : Option Addr) (m c : Nat) (bs : List Int) (hx : Cs w A (nums .u8 bs)) (hm : m = bs.length) (hw : ∀ x ∈ bs, (Lit.int .u8 x).wf = true) (hy : m * 1 ≤ 140737488351232) (hc : m ≤ c) :
    CallsE Pg law03_SetReads.N #[.int .i64 n, .slice A m c] w (fun v w' => v = .bool true ∧ Below w.heap.size w w') := by
  have hb := bytes_wf hw
  refine law03_SetReads.ok (law03_alive_c hT fun w1 b1 => ⟨_, rfl, condP_nt ?_⟩)
  refine ref01_Copy_c (hx.below b1) hm (by omega) fun A2 c2 w2 o2 b2 => ⟨_, _, _, rfl, ?_⟩
  have b2' := b1.trans (b2.mono b1.size)
  refine set_Read_c (Cs.ofOwn o2) hm hb (fun w3 he b3 => ⟨_, _, rfl, ?_⟩) (fun w3 p F he h0 h3 b3 => ⟨_, _, rfl, ?_⟩)
  · have b3' := b2'.trans (b3.mono b2'.size)
    refine ref03_Read_c (hx.below b3') hm hb (fun w4 _ b4 => ⟨_, _, rfl, ?_⟩) (fun w4 q G he' _ _ _ => absurd he' he)
    have b4' := b3'.trans (b4.mono b3'.size)
    have b24 : Below w2.heap.size w2 w4 := b3.trans (b4.mono b3.size)
    refine cond_ne (fun h => absurd rfl h) (fun _ => ?_)
    refine ref01_Same_c ((Cs.ofOwn o2).below b24) (hx.below b4') hm hm hb ⟨_, rfl, condP_f ?_⟩
    exact cond_ne (fun _ => ⟨rfl, b4'⟩) (fun h => absurd h he)
  · have b3' := b2'.trans (b3.mono b2'.size)
    refine ref03_Read_c (hx.below b3') hm hb (fun w4 he' _ => absurd he he') (fun w4 q G _ _ h4 b4 => ⟨_, _, rfl, ?_⟩)
    have b4' := b3'.trans (b4.mono b3'.size)
    have b24 : Below w2.heap.size w2 w4 := b3.trans (b4.mono b3.size)
    obtain ⟨n0, n1, hlen, hbad⟩ := rdErr_0 he
    have hS := within_bits hbad
    have h3' := h3.below b4
    have hml := @memL_le (bitsOf bs) 0 n.toNat
    refine cond_ne (fun h => absurd rfl h) (fun _ => ?_)
    refine ref01_Same_c ((Cs.ofOwn o2).below b24) (hx.below b4') hm hm hb ⟨_, rfl, condP_f ?_⟩
    refine cond_ne (fun h => absurd rfl h) (fun _ => ?_)
    refine set_Set_Len_c h3' ⟨_, rfl, cond_eq (fun _ => ?_) (fun h => absurd (by omega) h)⟩
    refine set_Set_List_c h3' (hT.below b4' hT.lt) fun A5 m5 c5 w5 hm5 o5 b5 => ⟨_, _, _, rfl, ?_⟩
    have b5' := b4'.trans (b5.mono b4'.size)
    refine ref03_Set_List_c (h4.below b5) fun A6 m6 c6 w6 hm6 o6 b6 => ⟨_, _, _, rfl, ?_⟩
    have b6' := b5'.trans (b6.mono b5'.size)
    refine ref01_Ints_c (Cs.ofOwn (own_below_kp o5 b6)) (Cs.ofOwn o6) hm5 hm6 (by omega) ⟨_, rfl, condP_t ?_⟩
    refine set_Set_Bytes_c ((h3'.below b5).below b6) fun A7 c7 w7 o7 b7 => ⟨_, _, _, rfl, ?_⟩
    have b7' := b6'.trans (b7.mono b6'.size)
    rw [bytL_bits hb hlen] at o7
    exact ref01_Same_c (Cs.ofOwn o7) (hx.below b7') hlen.symm hm hb ⟨_, rfl, rfl, b7'⟩
theorem law_SetBack (w : World) (hT : Tab w) (n : Int) (hn : (Lit.int .i64 n).wf = true) (A : Option Addr) (m c : Nat) (hz : RdSlice 16 2 RdSCall w [.slice A m c]) : CallsE Pg law03_SetBack.N #[.int .i64 n, .slice A m c] w (fun v w' => v = .bool true ∧ Below w.heap.size w w') := by
  obtain ⟨cl, hx, hm, hsb, hok⟩ := list_of (f := SCall.cells) hz (fun cs h => scall_of h)
  refine law03_SetBack.ok (law03_alive_c hT fun w1 b1 => ⟨_, rfl, condP_nt ?_⟩)
  refine law03_plays_c (hT.below b1 hT.lt) (hx.below b1) hm hok fun w2 p q b2 hT2 => ⟨_, _, _, rfl, condP_nt ?_⟩
  have b2' := b1.trans (b2.mono b1.size)
  obtain ⟨⟨F, G, h1, h2, hd⟩, hS⟩ := hT2
  generalize runS (clampN n) noneS (cl.take 300) = S at h1 h2 hS
  generalize clampN n = N at h1 h2 hS
  have hsz := h1.size
  have hml := @memL_le S 0 N
  refine set_Set_Len_c h1 ⟨_, rfl, set_Set_Bytes_c h1 fun A3 c3 w3 o3 b3 => ⟨_, _, _, rfl, ?_⟩⟩
  have b3' := b2'.trans (b3.mono b2'.size)
  have e0 : rdErr (bytL S N) (N : Int) = 0 := by
    unfold rdErr
    rw [if_neg (by omega), if_neg (by rw [bytL_len]; omega), if_neg (by rw [bytL_len]; omega), Int.toNat_natCast, if_neg]
    rw [bad_no (fun i hi => by rw [bits_byt hS]; exact hS i hi)]
    decide
  refine set_Read_c (Cs.ofOwn o3) bytL_len.symm bytL_bytes (fun w4 he _ => absurd e0 he) (fun w4 p4 F4 _ _ h4 b4 => ⟨_, _, rfl, ?_⟩)
  rw [Int.toNat_natCast, bits_byt hS] at h4
  have b4' := b3'.trans (b4.mono b3'.size)
  have h1' := (h1.below b3).below b4
  refine condP_t ?_
  refine set_Set_List_c h4 (hT.below b4' hT.lt) fun A5 m5 c5 w5 hm5 o5 b5 => ⟨_, _, _, rfl, ?_⟩
  have b5' := b4'.trans (b5.mono b4'.size)
  refine set_Set_List_c (h1'.below b5) (hT.below b5' hT.lt) fun A6 m6 c6 w6 hm6 o6 b6 => ⟨_, _, _, rfl, ?_⟩
  have b6' := b5'.trans (b6.mono b5'.size)
  refine ref01_Ints_c (Cs.ofOwn (own_below_kp o5 b6)) (Cs.ofOwn o6) hm5 hm6 (by omega) ⟨_, rfl, condP_t ?_⟩
  refine set_Set_Len_c ((h4.below b5).below b6) ⟨_, rfl, set_Set_Len_c ((h1'.below b5).below b6) ⟨_, rfl, ?_⟩⟩
  exact ⟨by simp, b6'⟩
theorem apart_turn {w0 wi : World} {p tq A B : Option Addr} {n m c m10 c10 b : Nat} {cl : List SCall} {F : Nat → Prop} {K : Value → World → Prop} (hx : Cs w0 A (cl.flatMap SCall.cells)) (hm : m = cl.length) (hok : ∀ x ∈ cl, SCallOk x) (hb0 : w0.heap.size ≤ b)
    (hK : ∀ w' S', Kp F wi w' → SetV w' b p n S' F → Within S' n → law03_SetApart.p9 K A m c p B m10 c10 tq w') :
    ∀ (d k : Nat) (w : World) (S : Nat → Bool), k + d = 300 → Kp F wi w → Below w0.heap.size w0 w → SetV w b p n S F → Within S n → law03_SetApart.l0 K (d + 1) A m c p B m10 c10 tq k w := by
  intro d
  induction d with
  | zero =>
    intro k w S hk hkp hb h hS
    rw [law03_SetApart.l0_succ]
    refine cond_dec (fun _ => ?_) (fun _ => hK w S hkp h hS)
    rw [decide_eq_false (by omega)]
    exact hK w S hkp h hS
  | succ d ih =>
    intro k w S hk hkp hb h hS
    rw [law03_SetApart.l0_succ]
    refine cond_dec (fun hlt => ?_) (fun _ => hK w S hkp h hS)
    rw [decide_eq_true (by omega)]
    have hlen : k < cl.length := by omega
    have hxk : cl[k]? = some cl[k] := List.getElem?_eq_getElem hlen
    have hc := hok _ (List.getElem_mem hlen)
    obtain ⟨a, rfl, c0, c1⟩ := scall_at (hx.below hb) hxk
    refine ⟨⟨by omega, by omega⟩, a, rfl, _, c1, ?_⟩
    refine set_Set_Add_c h hS hc.2 fun w1 h1 k1 => ⟨_, rfl, ?_⟩
    have b1 := hb.trans (h.under hb0 hb.size k1)
    obtain ⟨a', e, d0, d1⟩ := scall_at (hx.below b1) hxk
    cases e
    have hS1 : Within (putS S n cl[k].i true) n := putS_within hS
    refine ⟨⟨by omega, by omega⟩, a, rfl, _, d0, ?_⟩
    refine set_Set_Del_c h1 hS1 hc.1 fun w2 h2 k2 => ⟨_, rfl, ?_⟩
    have b2 := b1.trans (h1.under hb0 b1.size k2)
    rw [cst k (by omega)]
    exact ih (k + 1) w2 _ (by omega) ((hkp.trans k1 (fun _ _ h => h) (fun _ _ h => h)).trans k2 (fun _ _ h => h) (fun _ _ h => h)) b2 h2 (putS_within hS1)
theorem apart_turn2 {w0 wi : World} {p s A B : Option Addr} {n m c m13 c13 b : Nat} {cl : List SCall} {F : Nat → Prop} {K : Value → World → Prop} (hx : Cs w0 A (cl.flatMap SCall.cells)) (hm : m = cl.length) (hok : ∀ x ∈ cl, SCallOk x) (hb0 : w0.heap.size ≤ b)
    (hK : ∀ w', Kp F wi w' → law03_SetApart.p19 K s B m13 c13 w') :
    ∀ (d k : Nat) (w : World) (S : Nat → Bool), k + d = 300 → Kp F wi w → Below w0.heap.size w0 w → SetV w b p n S F → Within S n → law03_SetApart.l2 K (d + 1) A m c s p B m13 c13 k w := by
  intro d
  induction d with
  | zero =>
    intro k w S hk hkp hb h hS
    rw [law03_SetApart.l2_succ]
    refine cond_dec (fun _ => ?_) (fun _ => hK w hkp)
    rw [decide_eq_false (by omega)]
    exact hK w hkp
  | succ d ih =>
    intro k w S hk hkp hb h hS
    rw [law03_SetApart.l2_succ]
    refine cond_dec (fun hlt => ?_) (fun _ => hK w hkp)
    rw [decide_eq_true (by omega)]
    have hlen : k < cl.length := by omega
    have hxk : cl[k]? = some cl[k] := List.getElem?_eq_getElem hlen
    have hc := hok _ (List.getElem_mem hlen)
    obtain ⟨a, rfl, c0, c1⟩ := scall_at (hx.below hb) hxk
    refine ⟨⟨by omega, by omega⟩, a, rfl, _, c1, ?_⟩
    refine set_Set_Del_c h hS hc.2 fun w1 h1 k1 => ⟨_, rfl, ?_⟩
    have b1 := hb.trans (h.under hb0 hb.size k1)
    obtain ⟨a', e, d0, d1⟩ := scall_at (hx.below b1) hxk
    cases e
    have hS1 : Within (putS S n cl[k].i false) n := putS_within hS
    refine ⟨⟨by omega, by omega⟩, a, rfl, _, d0, ?_⟩
    refine set_Set_Add_c h1 hS1 hc.1 fun w2 h2 k2 => ⟨_, rfl, ?_⟩
    have b2 := b1.trans (h1.under hb0 b1.size k2)
    rw [cst k (by omega)]
    exact ih (k + 1) w2 _ (by omega) ((hkp.trans k1 (fun _ _ h => h) (fun _ _ h => h)).trans k2 (fun _ _ h => h) (fun _ _ h => h)) b2 h2 (putS_within hS1)
theorem apart_bytes {w0 : World} {p s A B C E' : Option Addr} {m c m10 c10 m13 c13 ne ce base : Nat} {K : Value → World → Prop} (hne : ne ≤ 140737488355328) (hK : ∀ w', Kp (fun i => base ≤ i) w0 w' → law03_SetApart.p13 K A m c p B m10 c10 s C m13 c13 w') :
    ∀ (d j : Nat) (w : World) (xs : List Int), j + d = ne → Kp (fun i => base ≤ i) w0 w → w.ownsRow base Ty.uint8 1 (.slice E' ne ce) ne (nums .u8 xs) → xs.length = ne → law03_SetApart.l1 K (d + 1) A m c p B m10 c10 s C m13 c13 E' ne ce ne j w := by
  intro d
  induction d with
  | zero =>
    intro j w xs hj hk ho hl
    rw [law03_SetApart.l1_succ]
    exact cond_dec (fun h => by omega) (fun _ => hK w hk)
  | succ d ih =>
    intro j w xs hj hk ho hl
    rw [law03_SetApart.l1_succ]
    refine cond_dec (fun _ => ?_) (fun h => absurd h (by omega))
    have hxj : xs[j]? = some xs[j] := List.getElem?_eq_getElem (by omega)
    obtain ⟨a, rfl, c0⟩ := (Cs.ofOwn ho).at (nums_at hxj)
    refine ⟨⟨by omega, by omega⟩, a, rfl, _, c0, ⟨by omega, by omega⟩, a, rfl, ?_⟩
    refine own_set1 (k := j) ho (by rw [nums_len]; omega) fun w' ho' hk' _ => ?_
    rw [nums_set] at ho'
    rw [cst j (by omega)]
    exact ih (j + 1) w' _ (by omega) (hk.trans hk' (fun _ _ h => h) (fun i _ e => by rw [e]; exact (own_lt ho rfl).1)) ho' (by simpa using hl)
theorem apart_ints {w0 : World} {p C E' : Option Addr} {m13 c13 ne ce base : Nat} {K : Value → World → Prop} (hne : ne ≤ 140737488355328) (hK : ∀ w', Kp (fun i => base ≤ i) w0 w' → law03_SetApart.p22 K p C m13 c13 w') :
    ∀ (d j : Nat) (w : World) (xs : List Int), j + d = ne → Kp (fun i => base ≤ i) w0 w → w.ownsRow base Ty.int 1 (.slice E' ne ce) ne (nums .i64 xs) → xs.length = ne → law03_SetApart.l3 K (d + 1) p C m13 c13 E' ne ce ne j w := by
  intro d
  induction d with
  | zero =>
    intro j w xs hj hk ho hl
    rw [law03_SetApart.l3_succ]
    exact cond_dec (fun h => by omega) (fun _ => hK w hk)
  | succ d ih =>
    intro j w xs hj hk ho hl
    rw [law03_SetApart.l3_succ]
    refine cond_dec (fun _ => ?_) (fun h => absurd h (by omega))
    have hxj : xs[j]? = some xs[j] := List.getElem?_eq_getElem (by omega)
    obtain ⟨a, rfl, c0⟩ := (Cs.ofOwn ho).at (nums_at hxj)
    refine ⟨⟨by omega, by omega⟩, a, rfl, ?_⟩
    refine own_set1 (k := j) ho (by rw [nums_len]; omega) fun w' ho' hk' _ => ?_
    rw [nums_set] at ho'
    rw [cst j (by omega)]
    exact ih (j + 1) w' _ (by omega) (hk.trans hk' (fun _ _ h => h) (fun i _ e => by rw [e]; exact (own_lt ho rfl).1)) ho' (by simpa using hl)
theorem law_SetApart (w : World) (hT : Tab w) (n : Int) (hn : (Lit.int .i64 n).wf = true) (A : Option Addr) (m c : Nat) (hz : RdSlice 16 2 RdSCall w [.slice A m c]) (A2 : Option Addr) (m2 c2 : Nat) (hz2 : RdSlice 16 2 RdSCall w [.slice A2 m2 c2]) :
    CallsE Pg law03_SetApart.N #[.int .i64 n, .slice A m c, .slice A2 m2 c2] w (fun v w' => v = .bool true ∧ Below w.heap.size w w') := by
  obtain ⟨cl, hx, hm, hsb, hok⟩ := list_of (f := SCall.cells) hz (fun cs h => scall_of h)
  obtain ⟨cl2, hx2, hm2, hsb2, hok2⟩ := list_of (f := SCall.cells) hz2 (fun cs h => scall_of h)
  refine law03_SetApart.ok (law03_alive_c hT fun w1 b1 => ⟨_, rfl, condP_nt ?_⟩)
  refine law03_plays_c (hT.below b1 hT.lt) (hx.below b1) hm hok fun w2 p q b2 hT2 => ⟨_, _, _, rfl, condP_nt ?_⟩
  have b2' := b1.trans (b2.mono b1.size)
  obtain ⟨⟨F, G0, h1, _, _⟩, hS⟩ := hT2
  generalize runS (clampN n) noneS (cl.take 300) = S at h1 hS
  generalize clampN n = N at h1 hS
  have h1 := h1.base b1.size
  have hsz := h1.size
  have hmlS : ∀ T : Nat → Bool, (memL T 0 N).length ≤ N := fun T => memL_le
  have hF : ∀ i, F i → w.heap.size ≤ i ∧ i < w2.heap.size := fun i hi => h1.lt hi
  refine set_Set_List_c h1 (hT.below b2' hT.lt) fun A3 m3 c3 w3 hm3 o3 b3 => ⟨_, _, _, rfl, ?_⟩
  have b3' := b2'.trans (b3.mono b2'.size)
  refine set_Set_Copy_c (h1.below b3) fun w4 tq G ht b4 => ⟨_, rfl, 301, ?_⟩
  have b4' := b3'.trans (b4.mono b3'.size)
  have hG : ∀ i, G i → w3.heap.size ≤ i ∧ i < w4.heap.size := fun i hi => ht.lt hi
  have s23 := b3.size
  have s34 := b4.size
  refine apart_turn (w0 := w) (wi := w4) hx2 hm2 hok2 (Nat.le_refl _) (fun w5 S5 k5 h5 hS5 => ?_) 300 0 w4 S (by omega) (Kp.refl _ _) b4' ((h1.below b3).below b4) hS
  have b5' := b4'.trans (k5.below b4'.size fun i hi hf => by have := (hF i hf).1; omega)
  have ht5 := ht.kp k5 (fun i hi hf => by have := (hG i hi).1; have := (hF i hf).2; omega)
  have o5 := own_kp (own_below_kp o3 b4) k5 (fun g hg hf => by have := (own_lt o3 hg).1; have := (hF g hf).2; omega)
  have s45 := k5.size
  refine set_Set_List_c h5 (hT.below b5' hT.lt) fun A6 m6 c6 w6 hm6 o6 b6 => ⟨_, _, _, rfl, ?_⟩
  have b6' := b5'.trans (b6.mono b5'.size)
  have s56 := b6.size
  refine set_Set_Bytes_c (ht5.below b6) fun A7 c7 w7 o7 b7 => ⟨_, _, _, rfl, ((N + 7) / 8) + 1, ?_⟩
  have b7' := b6'.trans (b7.mono b6'.size)
  have s67 := b7.size
  refine apart_bytes (w0 := w7) (base := w6.heap.size) (by omega) (fun w8 k8 => ?_) _ 0 w7 _ (by omega) (Kp.refl _ _) o7 bytL_len
  have b8' := b7'.trans (k8.below b7'.size fun i hi hf => by have := b6'.size; omega)
  have s78 := k8.size
  have ht8 := ((ht5.below b6).below b7).kp k8 (fun i hi hf => by have := (hG i hi).2; omega)
  have h8 := ((h5.below b6).below b7).kp k8 (fun i hi hf => by have := (hF i hi).2; omega)
  have o8 := own_kp (own_below_kp (own_below_kp o5 b6) b7) k8 (fun g hg hf => by have := (own_lt o5 hg).2; omega)
  have now8 := own_kp (own_below_kp o6 b7) k8 (fun g hg hf => by have := (own_lt o6 hg).2; omega)
  refine set_Set_List_c ht8 (hT.below b8' hT.lt) fun A9 m9 c9 w9 hm9 o9 b9 => ⟨_, _, _, rfl, ?_⟩
  have b9' := b8'.trans (b9.mono b8'.size)
  have s89 := b9.size
  have hl := hmlS S
  refine ref01_Ints_c (Cs.ofOwn o9) (Cs.ofOwn (own_below_kp o8 b9)) hm9 hm3 (by omega) ⟨_, rfl, condP_f ?_⟩
  have h9 := h8.below b9
  refine set_Set_Len_c (ht8.below b9) ⟨_, rfl, set_Set_Len_c h9 ⟨_, rfl, cond_ne (fun h => absurd rfl h) (fun _ => ⟨301, ?_⟩)⟩⟩
  refine apart_turn2 (w0 := w) (wi := w9) hx2 hm2 hok2 (b := w.heap.size) (Nat.le_refl _) (fun w10 k10 => ?_) 300 0 w9 S (by omega) (Kp.refl _ _) b9' ((ht8.below b9).base (by have := b3'.size; omega)) hS
  have b10' := b9'.trans (k10.below b9'.size fun i hi hf => by have := (hG i hf).1; have := b3'.size; omega)
  have s910 := k10.size
  have h10 := h9.kp k10 (fun i hi hf => by have := (hF i hi).2; have := (hG i hf).1; omega)
  have now10 := own_kp (own_below_kp now8 b9) k10 (fun g hg hf => by have := (own_lt o6 hg).1; have := (hG g hf).2; omega)
  refine set_Set_List_c h10 (hT.below b10' hT.lt) fun A11 m11 c11 w11 hm11 o11 b11 => ⟨_, _, _, rfl, m11 + 1, ?_⟩
  have b11' := b10'.trans (b11.mono b10'.size)
  have s1011 := b11.size
  have hl5 := hmlS S5
  refine apart_ints (w0 := w11) (base := w10.heap.size) (by omega) (fun w12 k12 => ?_) m11 0 w11 _ (by omega) (Kp.refl _ _) o11 hm11.symm
  have b12' := b11'.trans (k12.below b11'.size fun i hi hf => by have := b10'.size; omega)
  have h12 := (h10.below b11).kp k12 (fun i hi hf => by have := (hF i hi).2; omega)
  have now12 := own_kp (own_below_kp now10 b11) k12 (fun g hg hf => by have := (own_lt o6 hg).2; omega)
  refine set_Set_List_c h12 (hT.below b12' hT.lt) fun A13 m13 c13 w13 hm13 o13 b13 => ⟨_, _, _, rfl, ?_⟩
  exact ref01_Ints_c (Cs.ofOwn o13) (Cs.ofOwn (own_below_kp now12 b13)) hm13 hm6 (by omega) ⟨_, rfl, rfl, b12'.trans (b13.mono b12'.size)⟩

end Go.Proofs.YtebnmecioifijaaDoor.C
