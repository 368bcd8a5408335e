/-
  Parts of the proofs of this seat: what the functions compute. No condition beyond what each theorem states.
-/
import Derived.Test.YtebnmecioifijaaDoorF
import Derived.Test.YtebnmecioifijaaDoorRK
import Derived.Test.YtebnmecioifijaaDoorA
import Derived.Test.YtebnmecioifijaaDoorB
import Derived.Test.YtebnmecioifijaaDoorC
import Derived.Test.YtebnmecioifijaaDoorD
import Derived.Test.YtebnmecioifijaaDoorE
import Derived.Test.YtebnmecioifijaaDoorG
set_option linter.unusedVariables false
set_option linter.unusedSimpArgs false
set_option maxRecDepth 100000
namespace Go.Proofs.YtebnmecioifijaaDoor.C
open Go Go.RowKit Go.Proofs.YtebnmecioifijaaDoor Go.Proofs.YtebnmecioifijaaDoor.Sh Go.Proofs.YtebnmecioifijaaDoor.F Go.Proofs.YtebnmecioifijaaDoor.R

/-! ### SetPlays, SetParts, SetCounts, SetNil -/
theorem law_SetPlays (w : World) (hT : Tab w) (n : Int) (hn : (Lit.int .i64 n).wf = true) (A : Option Addr) (m c : Nat) (hz : RdSlice 16 2 RdSCall w [.slice A m c]) : CallsE Pg law03_SetPlays.N #[.int .i64 n, .slice A m c] w (fun v w' => v = .bool true ∧ Below w.heap.size w w') := by
  obtain ⟨cl, hx, hm, hsb, hok⟩ := list_of (f := SCall.cells) hz (fun cs h => scall_of h)
  refine law03_SetPlays.ok (law03_alive_c hT fun w1 b1 => ⟨_, rfl, condP_nt ?_⟩)
  refine law03_plays_c (hT.below b1 hT.lt) (hx.below b1) hm hok fun w2 p q b2 hT2 => ⟨_, _, _, rfl, ?_⟩
  have b2' := b1.trans (b2.mono b1.size)
  obtain ⟨⟨F, G, h1, h2, hd⟩, hS⟩ := hT2
  generalize runS (clampN n) noneS (cl.take 300) = S at h1 h2 hS
  have hnn := (clampN_eq n).2
  generalize clampN n = N at h1 h2 hS hnn
  refine ref03_Set_List_c h2 fun A3 m3 c3 w3 hm3 o3 b3 => ⟨_, _, _, rfl, ?_⟩
  have b3' := b2'.trans (b3.mono b2'.size)
  have h1' := h1.below b3
  have h2' := h2.below b3
  obtain ⟨t, g, rfl, r1, r2, r3, r4, r5, r6, rfl⟩ := id h2'
  refine ⟨fun H => H[t]? = some (.cells ⟨[.slice (some ⟨g, 0, none⟩) N N]⟩ Ty.ref03_Set (0, 0)), r4, condP_t ⟨_, rfl, _, _, _, fun w' h => Blk.cell' (show Blk w' t Ty.ref03_Set [.slice (some ⟨g, 0, none⟩) N N] from h) (j := 0) rfl, ?_⟩⟩
  refine set_Set_Len_c h1' ⟨_, rfl, r4, cond_eq (fun _ => ?_) (fun h => absurd rfl h)⟩
  refine set_Set_Count_c h1' hS ⟨_, rfl, r4, cond_eq (fun _ => ?_) (fun h => absurd (by rw [hm3, memL_len]) h)⟩
  have hml := @memL_le S 0 N
  refine set_Set_List_c h1' (hT.below b3' hT.lt) fun A4 m4 c4 w4 hm4 o4 b4 => ⟨_, _, _, rfl, r4.kp (Kp.of_below b4) id, ?_⟩
  have b4' := b3'.trans (b4.mono b3'.size)
  refine ref01_Ints_c (Cs.ofOwn o4) (Cs.ofOwn (own_below_kp o3 b4)) hm4 hm3 (by omega) ⟨_, rfl, r4.kp (Kp.of_below b4) id, condP_t ?_⟩
  refine set_Set_Bytes_c (h1'.below b4) fun A5 c5 w5 o5 b5 => ⟨_, _, _, rfl, (r4.kp (Kp.of_below b4) id).kp (Kp.of_below b5) id, ?_⟩
  have b5' := b4'.trans (b5.mono b4'.size)
  refine ref03_Set_Bytes_c ((h2'.below b4).below b5) hS fun A6 c6 w6 o6 b6 => ⟨_, _, _, rfl, ((r4.kp (Kp.of_below b4) id).kp (Kp.of_below b5) id).kp (Kp.of_below b6) id, ?_⟩
  have b6' := b5'.trans (b6.mono b5'.size)
  exact ref01_Same_c (Cs.ofOwn (own_below_kp o5 b6)) (Cs.ofOwn o6) bytL_len.symm bytL_len.symm bytL_bytes ⟨_, rfl, ((r4.kp (Kp.of_below b4) id).kp (Kp.of_below b5) id).kp (Kp.of_below b6) id, rfl, b6'⟩
theorem nxt_ge {S : Nat → Bool} {want : Bool} : ∀ (k b : Nat), nxt S want b k = -1 ∨ (b : Int) ≤ nxt S want b k
  | 0, _ => .inl rfl
  | k + 1, b => by
    rw [nxt]
    split
    · exact .inr (Int.le_refl _)
    · rcases nxt_ge (S := S) (want := want) k (b + 1) with h | h
      · exact .inl h
      · exact .inr (by omega)
theorem nxt_ne {S : Nat → Bool} {want : Bool} {f n : Nat} (h : S f ≠ want) : nxt S want f (n - f) ≠ f := by
  rw [nxt_skip 1 f rfl (fun i i1 i2 => by
    have e : i = f := by omega
    rw [e]; exact h)]
  rcases nxt_ge (S := S) (want := want) (n - (f + 1)) (f + 1) with h | h <;> omega
theorem nextV_nat {S : Nat → Bool} {n k : Nat} {want : Bool} : nextV S n want (k : Int) = nxt S want k (n - k) := by unfold nextV; rw [Int.toNat_natCast]
theorem cnt_succ (S : Nat → Bool) (k : Nat) : cnt S 0 (k + 1) = cnt S 0 k + (S k).toNat := by
  have := cnt_add S k 0 1
  rw [this, Nat.zero_add]
  rfl
theorem parts_loop {w : World} {b : Nat} {p : Option Addr} {n : Nat} {S : Nat → Bool} {F : Nat → Prop} {K : Value → World → Prop} (h : SetV w b p n S F) (hS : Within S n) (hT : Tab w) (hK : K (.bool true) w) :
    ∀ (d k : Nat), k + d = n → law03_SetParts.l0 K (d + 1) p ((cnt S 0 k : Nat) : Int) ((k - cnt S 0 k : Nat) : Int) k w := by
  have hsz := h.size
  intro d
  induction d with
  | zero =>
    intro k hk
    rw [law03_SetParts.l0_succ]
    refine set_Set_Len_c h ⟨_, rfl, cond_dec (fun h => by omega) (fun _ => ?_)⟩
    obtain rfl : k = n := by omega
    have hc := cnt_le S k 0
    refine set_Set_Count_c h hS ⟨_, rfl, cond_eq (fun _ => ?_) (fun h => absurd rfl h)⟩
    refine set_Set_Len_c h ⟨_, rfl, cond_eq (fun _ => ?_) (fun h => absurd (by rw [wrap64_in (by omega) (by omega)]; omega) h)⟩
    refine set_Set_Len_c h ⟨_, rfl, set_Set_First_c h hT ⟨by omega, by omega⟩ ⟨_, rfl, ?_⟩⟩
    rw [nextV_nat, nxt_end (Nat.le_refl _)]
    refine condP_t (set_Set_Len_c h ⟨_, rfl, set_Set_Gap_c h hT ⟨by omega, by omega⟩ ⟨_, rfl, ?_⟩⟩)
    rw [nextV_nat, nxt_end (Nat.le_refl _)]
    exact hK
  | succ d ih =>
    intro k hk
    rw [law03_SetParts.l0_succ]
    refine set_Set_Len_c h ⟨_, rfl, cond_dec (fun _ => ?_) (fun h => absurd h (by omega))⟩
    have hc := cnt_le S k 0
    have hs := cnt_succ S k
    have hi : I64 (k : Int) := ⟨by omega, by omega⟩
    refine set_Set_First_c h hT hi ⟨_, rfl, ?_⟩
    rw [nextV_nat]
    have ih' := ih (k + 1) (by omega)
    have eh : hasV S (k : Int) = S k := by unfold hasV; rw [decide_eq_true (by omega), Int.toNat_natCast]; rfl
    cases hv : S k with
    | true =>
      rw [hv] at hs eh
      rw [nxt_here (by omega) hv]
      refine cond_eq (fun _ => set_Set_Gap_c h hT hi ⟨_, rfl, ?_⟩) (fun h => absurd rfl h)
      rw [nextV_nat]
      refine cond_ne (fun _ => set_Set_Has_c h hS ⟨_, rfl, ?_⟩) (fun e => absurd e (nxt_ne (by rw [hv]; decide)))
      rw [eh]
      show law03_SetParts.l0 K (d + 1) p (IntKind.wrap .i64 (((cnt S 0 k : Nat) : Int) + 1)) _ (IntKind.wrap .i64 ((k : Int) + 1)) w
      rw [cst _ (by omega), cst k (by omega)]
      have e1 : cnt S 0 (k + 1) = cnt S 0 k + 1 := hs
      have e2 : k + 1 - cnt S 0 (k + 1) = k - cnt S 0 k := by omega
      rw [e2, e1] at ih'
      exact ih'
    | false =>
      rw [hv] at hs eh
      have hnk : nxt S true k (n - k) ≠ k := nxt_ne (by rw [hv]; decide)
      refine cond_eq (fun e => absurd e hnk) (fun _ => ?_)
      refine set_Set_Gap_c h hT hi ⟨_, rfl, ?_⟩
      rw [nextV_nat, nxt_here (by omega) hv]
      refine cond_eq (fun _ => set_Set_First_c h hT hi ⟨_, rfl, ?_⟩) (fun h => absurd rfl h)
      rw [nextV_nat]
      refine cond_ne (fun _ => set_Set_Has_c h hS ⟨_, rfl, ?_⟩) (fun e => absurd e hnk)
      rw [eh]
      show law03_SetParts.l0 K (d + 1) p _ (IntKind.wrap .i64 (((k - cnt S 0 k : Nat) : Int) + 1)) (IntKind.wrap .i64 ((k : Int) + 1)) w
      rw [cst _ (by omega), cst k (by omega)]
      have e1 : cnt S 0 (k + 1) = cnt S 0 k := hs
      have e2 : k + 1 - cnt S 0 (k + 1) = k - cnt S 0 k + 1 := by omega
      rw [e2, e1] at ih'
      exact ih'
theorem wf_u16 {n : Int} (h : (Lit.int .u16 n).wf = true) : 0 ≤ n ∧ n ≤ 65535 := by
  simp [Lit.wf, IntKind.min, IntKind.max, IntKind.bits, IntKind.signed] at h
  omega
theorem law_SetParts (w : World) (hT : Tab w) (n : Int) (hn : (Lit.int .u16 n).wf = true) (A : Option Addr) (m c : Nat) (hz : RdSlice 16 2 RdSCall w [.slice A m c]) : CallsE Pg law03_SetParts.N #[.int .u16 n, .slice A m c] w (fun v w' => v = .bool true ∧ Below w.heap.size w w') := by
  obtain ⟨cl, hx, hm, hsb, hok⟩ := list_of (f := SCall.cells) hz (fun cs h => scall_of h)
  refine law03_SetParts.ok (law03_alive_c hT fun w1 b1 => ⟨_, rfl, condP_nt ⟨by decide, ?_⟩⟩)
  refine law03_plays_c (hT.below b1 hT.lt) (hx.below b1) hm hok fun w2 p q b2 hT2 => ⟨_, _, _, rfl, condP_nt ?_⟩
  have b2' := b1.trans (b2.mono b1.size)
  obtain ⟨⟨F, G, h1, h2, hd⟩, hS⟩ := hT2
  exact ⟨_, parts_loop h1 hS (hT.below b2' hT.lt) ⟨rfl, b2'⟩ _ 0 (Nat.zero_add _)⟩
theorem cnt_same {S T : Nat → Bool} : ∀ (n b : Nat), (∀ i, b ≤ i → i < b + n → S i = T i) → cnt S b n = cnt T b n
  | 0, _, _ => rfl
  | n + 1, b, h => by rw [cnt, cnt, h b (by omega) (by omega), cnt_same n (b + 1) (fun i h1 h2 => h i (by omega) (by omega))]
theorem cnt_upd {S : Nat → Bool} {n k : Nat} (hk : k < n) (hs : S k = false) : cnt (upd S k true) 0 n = cnt S 0 n + 1 := by
  have e : n = k + (1 + (n - k - 1)) := by omega
  rw [e, cnt_add, cnt_add, cnt_add S k, cnt_add S 1, Nat.zero_add]
  rw [cnt_same (S := upd S k true) (T := S) k 0 (fun i h1 h2 => upd_ne (show i ≠ k by omega)), cnt_same (S := upd S k true) (T := S) (n - k - 1) (k + 1) (fun i h1 h2 => upd_ne (show i ≠ k by omega))]
  have e1 : cnt (upd S k true) k 1 = 1 := by show (upd S k true k).toNat + 0 = 1; rw [upd_self]; rfl
  have e2 : cnt S k 1 = 0 := by show (S k).toNat + 0 = 0; rw [hs]; rfl
  rw [e1, e2]; omega
theorem cnt_put {S : Nat → Bool} {n : Nat} {i : Int} : cnt (putS S n i true) 0 n = cnt S 0 n + (canPut S n i true).toNat := by
  cases hc : canPut S n i true with
  | false => rw [putS_no hc]; rfl
  | true =>
    rw [putS_yes hc]
    obtain ⟨k, rfl, hk, hs⟩ := canPut_true hc
    rw [Int.toNat_natCast]
    exact cnt_upd hk hs
theorem has_after {S : Nat → Bool} {n : Nat} {i : Int} (hS : Within S n) : hasV (putS S n i true) i = (decide (0 ≤ i) && decide (i < n)) := by
  cases hc : canPut S n i true with
  | false =>
    rw [putS_no hc]
    unfold canPut at hc
    unfold hasV
    by_cases h0 : 0 ≤ i
    · rw [decide_eq_true h0] at hc ⊢
      by_cases h1 : i < n
      · rw [decide_eq_true h1] at hc ⊢
        cases hs : S i.toNat <;> rw [hs] at hc <;> simp_all
      · rw [decide_eq_false h1, hS i.toNat (by omega)]
    · rw [decide_eq_false h0]; rfl
  | true =>
    rw [putS_yes hc]
    obtain ⟨k, rfl, hk, hs⟩ := canPut_true hc
    unfold hasV
    rw [Int.toNat_natCast, upd_self, decide_eq_true (by omega), decide_eq_true (by omega)]
theorem memL_mem {S : Nat → Bool} : ∀ (k b : Nat) (x : Int), x ∈ memL S b k → ∃ i : Nat, x = i ∧ b ≤ i ∧ i < b + k ∧ S i = true
  | 0, _, _, h => by simp [memL] at h
  | k + 1, b, x, h => by
    rw [memL] at h
    cases hs : S b with
    | true =>
      rw [hs, if_pos rfl] at h
      rcases List.mem_cons.1 h with rfl | h
      · exact ⟨b, rfl, Nat.le_refl _, by omega, hs⟩
      · obtain ⟨i, h1, h2, h3, h4⟩ := memL_mem k (b + 1) x h
        exact ⟨i, h1, by omega, by omega, h4⟩
    | false =>
      rw [hs, if_neg (by decide)] at h
      obtain ⟨i, h1, h2, h3, h4⟩ := memL_mem k (b + 1) x h
      exact ⟨i, h1, by omega, by omega, h4⟩
theorem memL_rise {S : Nat → Bool} : ∀ (k b : Nat), (memL S b k).Pairwise (· < ·)
  | 0, _ => by simp [memL]
  | k + 1, b => by
    rw [memL]
    split
    · refine List.pairwise_cons.2 ⟨fun x hx => ?_, memL_rise k (b + 1)⟩
      obtain ⟨i, rfl, h2, _⟩ := memL_mem k (b + 1) x hx
      omega
    · exact memL_rise k (b + 1)
theorem counts_list {w : World} {b : Nat} {p A : Option Addr} {n m c : Nat} {S : Nat → Bool} {F : Nat → Prop} {K : Value → World → Prop} (h : SetV w b p n S F) (hS : Within S n) (hx : Cs w A (nums .i64 (memL S 0 n))) (hm : m = (memL S 0 n).length) (hK : K (.bool true) w) :
    ∀ (d k : Nat), k + d = m → law03_SetCounts.l1 K (d + 1) p ((cnt S 0 n : Nat) : Int) A m c m k w := by
  have hsz := h.size
  have hml := @memL_le S 0 n
  intro d
  induction d with
  | zero =>
    intro k hk
    rw [law03_SetCounts.l1_succ]
    show condP (decide ((k : Int) < _)) _ _
    refine cond_dec (fun h => by omega) (fun _ => ?_)
    refine cond_eq (fun _ => ?_) (fun h => absurd (by rw [hm, memL_len]) h)
    refine set_Set_Count_c h hS ⟨_, rfl, ?_⟩
    show K (.bool (((cnt S 0 n : Nat) : Int) == ((cnt S 0 n : Nat) : Int))) w
    rw [beq_self_eq_true]
    exact hK
  | succ d ih =>
    intro k hk
    rw [law03_SetCounts.l1_succ]
    show condP (decide ((k : Int) < _)) _ _
    refine cond_dec (fun _ => ?_) (fun h => absurd h (by omega))
    have hlt : k < (memL S 0 n).length := by omega
    have hxk : (memL S 0 n)[k]? = some (memL S 0 n)[k] := List.getElem?_eq_getElem hlt
    obtain ⟨a, rfl, c0⟩ := hx.at (nums_at hxk)
    obtain ⟨i, hi, _, hin, hsi⟩ := memL_mem n 0 _ (List.getElem_mem hlt)
    have next : law03_SetCounts.p16 (law03_SetCounts.l1 K (d + 1)) K p ((cnt S 0 n : Nat) : Int) (some a) m c m k false w := by
      show law03_SetCounts.l1 K (d + 1) p _ (some a) m c m (IntKind.wrap .i64 ((k : Int) + 1)) w
      rw [cst k (by omega)]
      exact ih (k + 1) (by omega)
    unfold law03_SetCounts.p14 law03_SetCounts.p15
    rw [Int.toNat_natCast]
    refine ⟨fun H => H = w.heap, rfl, ⟨by omega, by omega⟩, a, rfl, _, fun w' e => held c0 w' e, ?_⟩
    refine set_Set_Has_c h hS ⟨_, rfl, rfl, ?_⟩
    have eh : hasV S (memL S 0 n)[k] = true := by rw [hi]; unfold hasV; rw [decide_eq_true (by omega), Int.toNat_natCast, hsi]; rfl
    rw [eh]
    refine condP_nt (cond_dec (fun hk0 => ?_) (fun _ => next))
    have ek : IntKind.wrap .i64 ((k : Int) - 1) = ((k - 1 : Nat) : Int) := by rw [wrap64_in (by omega) (by omega)]; omega
    have hx1 : (memL S 0 n)[k - 1]? = some (memL S 0 n)[k - 1] := List.getElem?_eq_getElem (by omega)
    obtain ⟨a', e, c1⟩ := hx.at (nums_at hx1)
    cases e
    rw [ek, Int.toNat_natCast]
    refine ⟨⟨by omega, by omega⟩, _, rfl, ⟨by omega, by omega⟩, _, rfl, _, fun w' e => held c0 w' e, _, fun w' e => held c1 w' e, ?_⟩
    have hr := List.pairwise_iff_getElem.1 (memL_rise (S := S) n 0) (k - 1) k (by omega) hlt (by omega)
    rw [decide_eq_false (by omega)]
    exact next
theorem counts_loop {w0 : World} {p A : Option Addr} {n m c b : Nat} {l : List Int} {F : Nat → Prop} {K : Value → World → Prop} (hT : Tab w0) (hx : Cs w0 A (nums .i64 l)) (hm : m = l.length) (hi : ∀ x ∈ l, I64 x) (hb0 : w0.heap.size ≤ b) (hK : ∀ w', Below w0.heap.size w0 w' → K (.bool true) w') :
    ∀ (d k : Nat) (w : World) (S : Nat → Bool), k + d = 500 → Below w0.heap.size w0 w → SetV w b p n S F → Within S n → law03_SetCounts.l0 K (d + 1) A m c p ((cnt S 0 n : Nat) : Int) k w := by
  have fin : ∀ (w : World) (S : Nat → Bool), Below w0.heap.size w0 w → SetV w b p n S F → Within S n → law03_SetCounts.p10 K p ((cnt S 0 n : Nat) : Int) w := fun w S hb h hS => by
    refine set_Set_List_c h (hT.below hb hT.lt) fun A3 m3 c3 w3 hm3 o3 b3 => ⟨_, _, _, rfl, m3 + 1, ?_⟩
    exact counts_list (h.below b3) hS (Cs.ofOwn o3) hm3 (hK w3 (hb.trans (b3.mono hb.size))) m3 0 (by omega)
  intro d
  induction d with
  | zero =>
    intro k w S hk hb h hS
    rw [law03_SetCounts.l0_succ]
    refine cond_dec (fun _ => ?_) (fun _ => fin w S hb h hS)
    rw [decide_eq_false (by omega)]
    exact fin w S hb h hS
  | succ d ih =>
    intro k w S hk hb h hS
    rw [law03_SetCounts.l0_succ]
    refine cond_dec (fun hlt => ?_) (fun _ => fin w S hb h hS)
    rw [decide_eq_true (by omega)]
    have hsz := h.size
    have hxk : l[k]? = some l[k] := List.getElem?_eq_getElem (by omega)
    have hik := hi _ (List.getElem_mem (by omega : k < l.length))
    obtain ⟨a, rfl, c0⟩ := (hx.below hb).at (nums_at hxk)
    refine ⟨⟨by omega, by omega⟩, a, rfl, _, c0, ?_⟩
    refine set_Set_Add_c h hS hik fun w1 h1 k1 => ⟨_, rfl, ?_⟩
    have b1 := hb.trans (h.under hb0 hb.size k1)
    obtain ⟨a', e, c1⟩ := (hx.below b1).at (nums_at hxk)
    cases e
    have hS1 : Within (putS S n l[k] true) n := putS_within hS
    have hcl := cnt_le S n 0
    have go : law03_SetCounts.p7 (law03_SetCounts.l0 K (d + 1)) K (some a) m c p ((cnt (putS S n l[k] true) 0 n : Nat) : Int) k w1 := by
      unfold law03_SetCounts.p7
      rw [Int.toNat_natCast]
      refine ⟨fun H => H = w1.heap, rfl, ⟨by omega, by omega⟩, a, rfl, ⟨by omega, by omega⟩, a, rfl, _, fun w' e => held c1 w' e, _, fun w' e => held c1 w' e, ?_⟩
      refine set_Set_Has_c h1 hS1 ⟨_, rfl, rfl, ?_⟩
      rw [has_after hS]
      have next : law03_SetCounts.p9 (law03_SetCounts.l0 K (d + 1)) K (some a) m c p ((cnt (putS S n l[k] true) 0 n : Nat) : Int) k w1 := by
        show law03_SetCounts.l0 K (d + 1) (some a) m c p _ (IntKind.wrap .i64 ((k : Int) + 1)) w1
        rw [cst k (by omega)]
        exact ih (k + 1) w1 _ (by omega) b1 h1 hS1
      refine cond_dec (fun h0 => ?_) (fun h0 => ?_)
      · refine ⟨⟨by omega, by omega⟩, a, rfl, _, fun w' e => held c1 w' e, set_Set_Len_c h1 ⟨_, rfl, rfl, ?_⟩⟩
        rw [decide_eq_true h0, Bool.true_and, beq_self_eq_true]
        exact next
      · rw [decide_eq_false h0, Bool.false_and]
        exact next
    have hcp := @cnt_put S n l[k]
    cases hc : canPut S n l[k] true with
    | true =>
      rw [hc] at hcp
      have e : IntKind.wrap .i64 (((cnt S 0 n : Nat) : Int) + 1) = ((cnt (putS S n l[k] true) 0 n : Nat) : Int) := by
        rw [hcp, cst _ (by omega)]; rfl
      refine condP_t ?_
      rw [e]
      exact go
    | false =>
      rw [hc] at hcp
      have e : cnt (putS S n l[k] true) 0 n = cnt S 0 n := hcp
      rw [e] at go
      exact condP_f go
theorem ints_wf {xs : List Int} (h : ∀ x ∈ xs, (Lit.int .i64 x).wf = true) : ∀ x ∈ xs, I64 x := fun x hx => wf_i64 (h x hx)
theorem law_SetCounts (w : World) (hT : Tab w) (n : Int) (hn : (Lit.int .i64 n).wf = true) (A : Option Addr) (m c : Nat) (l : List Int) (hx : Cs w A (nums .i64 l)) (hm : m = l.length) (hw : ∀ x ∈ l, (Lit.int .i64 x).wf = true) (hy : m * 8 ≤ 140737488351232) (hc : m ≤ c) :
    CallsE Pg law03_SetCounts.N #[.int .i64 n, .slice A m c] w (fun v w' => v = .bool true ∧ Below w.heap.size w w') := by
  refine law03_SetCounts.ok (law03_alive_c hT fun w1 b1 => ⟨_, rfl, condP_nt ?_⟩)
  refine set_New_c fun w2 p F h2 b2 => ⟨_, rfl, 501, ?_⟩
  have e0 : cnt noneS 0 (clampN n) = 0 := cnt_none noneS _ 0 (fun _ _ => rfl)
  have := counts_loop (w0 := w1) (hT.below b1 hT.lt) (hx.below b1) hm (ints_wf hw) (Nat.le_refl _) (K := fun v w' => v = .bool true ∧ Below w.heap.size w w') (c := c) (fun w' hb => ⟨rfl, b1.trans (hb.mono b1.size)⟩) 500 0 w2 noneS (by omega) b2 h2 (fun _ _ => rfl)
  rw [e0] at this
  exact this
theorem len_nil {w : World} {K : Value → World → Prop} (h : K (.int .i64 0) w) : CallsE Pg set_Set_Len.N #[.pointer none] w K := set_Set_Len.ok (condP_t h)
theorem has_nil {w : World} {i : Int} {K : Value → World → Prop} (h : K (.bool false) w) : CallsE Pg set_Set_Has.N #[.pointer none, .int .i64 i] w K :=
  set_Set_Has.ok (cond_dec (fun h0 => len_nil ⟨_, rfl, cond_dec (fun h1 => absurd h1 (by omega)) (fun _ => h)⟩) (fun _ => h))
theorem first_nil {w : World} {i : Int} {t : Nat} {K : Value → World → Prop} (h : K (.int .i64 (-1)) w) : CallsE Pg set_Set_next.N #[.pointer none, .int .i64 i, .int .u64 (t : Int)] w K := by
  refine set_Set_next.ok ⟨1, ?_⟩
  rw [set_Set_next.l0_succ]
  have : 0 ≤ imax 0 i := by unfold imax; split <;> omega
  exact len_nil ⟨_, rfl, cond_dec (fun h1 => absurd h1 (by omega)) (fun _ => h)⟩
theorem law_SetNil (w : World) (hT : Tab w) (i : Int) (hi : (Lit.int .i64 i).wf = true) : CallsE Pg law03_SetNil.N #[.int .i64 i] w (fun v w' => v = .bool true ∧ Below w.heap.size w w') := by
  refine law03_SetNil.ok (law03_alive_c hT fun w1 b1 => ⟨_, rfl, condP_t ?_⟩)
  refine len_nil ⟨_, rfl, condP_t (has_nil ⟨_, rfl, condP_t ?_⟩)⟩
  have hadd : ∀ (K : Value → World → Prop), K (.bool false) w1 → CallsE Pg set_Set_Add.N #[.pointer none, .int .i64 i] w1 K := fun K h =>
    set_Set_Add.ok (cond_dec (fun _ => h) (fun h0 => len_nil ⟨_, rfl, cond_dec (fun _ => h) (fun h1 => absurd h1 (by omega))⟩))
  refine hadd _ ⟨_, rfl, condP_t ?_⟩
  refine set_Set_Del.ok (has_nil ⟨_, rfl, condP_t ⟨_, rfl, condP_t ?_⟩⟩)
  refine set_Set_Count.ok (condP_t ⟨_, rfl, condP_t ?_⟩)
  refine set_Set_First.ok (first_nil (t := 0) ⟨_, rfl, ⟨_, rfl, condP_t ?_⟩⟩)
  refine set_Set_Gap.ok (first_nil (t := 18446744073709551615) ⟨_, rfl, ⟨_, rfl, condP_t ?_⟩⟩)
  refine set_Set_List.ok (set_Set_First.ok (first_nil (t := 0) ⟨_, rfl, ⟨_, rfl, 1, ?_⟩⟩))
  rw [set_Set_List.l0_succ]
  refine condP_f ⟨_, _, _, rfl, condP_t ?_⟩
  refine set_Set_Bytes.ok (len_nil ⟨_, rfl, by decide, ⟨by decide, by decide, by decide, by decide⟩, wlet_intro fun w2 h2 => ⟨1, ?_⟩⟩)
  have hal : Below w1.heap.size w1 w2 := by rw [h2]; exact (Below.refl _ _).alloc (Nat.le_refl _) _
  clear h2
  rw [set_Set_Bytes.l0_succ]
  refine condP_f ⟨_, _, _, rfl, condP_t ?_⟩
  exact set_Set_Copy.ok (condP_t ⟨_, rfl, rfl, b1.trans (hal.mono b1.size)⟩)

end Go.Proofs.YtebnmecioifijaaDoor.C
