/-
  Parts of the proofs of this seat: what the functions compute. No condition beyond what each theorem states.
-/
import Derived.Test.YtebnmecioifijaaDoorF
import Derived.Test.YtebnmecioifijaaDoorRK
import Derived.Test.YtebnmecioifijaaDoorA
import Derived.Test.YtebnmecioifijaaDoorB
import Derived.Test.YtebnmecioifijaaDoorC
import Derived.Test.YtebnmecioifijaaDoorD
set_option linter.unusedVariables false
set_option linter.unusedSimpArgs false
set_option maxRecDepth 100000
namespace Go.Proofs.YtebnmecioifijaaDoor.C
open Go Go.RowKit Go.Proofs.YtebnmecioifijaaDoor Go.Proofs.YtebnmecioifijaaDoor.Sh Go.Proofs.YtebnmecioifijaaDoor.F Go.Proofs.YtebnmecioifijaaDoor.R

/-! ### sets: the document's -/
def RefV (w : World) (b : Nat) (p : Option Addr) (n : Nat) (S : Nat → Bool) (F : Nat → Prop) : Prop :=
  ∃ t g, p = some ⟨t, 0, none⟩ ∧ b ≤ t ∧ b ≤ g ∧ g ≠ t ∧ Blk w t Ty.ref03_Set [.slice (some ⟨g, 0, none⟩) n n] ∧ Blk w g Ty.bool (bools (ins S n)) ∧ n ≤ 65536 ∧ F = fun i => i = t ∨ i = g
theorem RefV.kp {w w' : World} {b : Nat} {p : Option Addr} {n : Nat} {S : Nat → Bool} {F G : Nat → Prop} (h : RefV w b p n S F) (k : Kp G w w') (hd : ∀ i, F i → ¬ G i) : RefV w' b p n S F := by
  obtain ⟨t, g, rfl, h1, h2, h3, h4, h5, h6, rfl⟩ := h
  exact ⟨t, g, rfl, h1, h2, h3, h4.kp k (hd t (.inl rfl)), h5.kp k (hd g (.inr rfl)), h6, rfl⟩
theorem RefV.lt {w : World} {b : Nat} {p : Option Addr} {n : Nat} {S : Nat → Bool} {F : Nat → Prop} (h : RefV w b p n S F) {i : Nat} (hi : F i) : b ≤ i ∧ i < w.heap.size := by
  obtain ⟨t, g, rfl, h1, h2, h3, h4, h5, h6, rfl⟩ := h
  rcases hi with rfl | rfl
  · exact ⟨h1, h4.lt⟩
  · exact ⟨h2, h5.lt⟩
theorem RefV.below {w w' : World} {b : Nat} {p : Option Addr} {n : Nat} {S : Nat → Bool} {F : Nat → Prop} (h : RefV w b p n S F) (k : Below w.heap.size w w') : RefV w' b p n S F := h.kp (Kp.of_below k) (fun _ _ => id)
theorem RefV.size {w : World} {b : Nat} {p : Option Addr} {n : Nat} {S : Nat → Bool} {F : Nat → Prop} (h : RefV w b p n S F) : n ≤ 65536 := by
  obtain ⟨t, g, rfl, h1, h2, h3, h4, h5, h6, rfl⟩ := h
  exact h6
theorem RefV.base {w : World} {b b' : Nat} {p : Option Addr} {n : Nat} {S : Nat → Bool} {F : Nat → Prop} (h : RefV w b p n S F) (hb : b' ≤ b) : RefV w b' p n S F := by
  obtain ⟨t, g, rfl, h1, h2, h3, h4, h5, h6, rfl⟩ := h
  exact ⟨t, g, rfl, by omega, by omega, h3, h4, h5, h6, rfl⟩
theorem RefV.under {w w' : World} {b b0 : Nat} {p : Option Addr} {n : Nat} {S : Nat → Bool} {F : Nat → Prop} (h : RefV w b p n S F) (hb : b0 ≤ b) (hw : b0 ≤ w.heap.size) (k : Kp F w w') : Below b0 w w' :=
  k.below hw fun i hi hs => by have := (h.lt hs).1; omega
theorem ins_none (n : Nat) : ins noneS n = List.replicate n false := by
  apply List.ext_getElem?
  intro k
  by_cases h : k < n
  · rw [ins_at h, List.getElem?_replicate, if_pos h]; rfl
  · rw [List.getElem?_eq_none (by rw [ins_len]; omega), List.getElem?_eq_none (by simp; omega)]
theorem ref03_New_c {n : Int} {K : Value → World → Prop} {w : World} (hK : ∀ w' p F, RefV w' w.heap.size p (clampN n) noneS F → Below w.heap.size w w' → K (.pointer p) w') : CallsE Pg ref03_New.N #[.int .i64 n] w K := by
  refine ref03_New.ok ?_
  obtain ⟨e0, hm⟩ := clampN_eq n
  generalize clampN n = m at hK e0 hm
  unfold ref03_New.F
  rw [e0, Int.toNat_natCast]
  refine ⟨⟨by omega, by omega, by omega, by omega⟩, ?_⟩
  rw [made_bools]
  refine wlet_intro fun w1 h1 => wlet_intro fun w2 h2 => ?_
  have hal : Below w.heap.size w w1 := by rw [h1]; exact (Below.refl _ _).alloc (Nat.le_refl _) _
  have hg : Blk w1 w.heap.size Ty.bool (bools (List.replicate m false)) := by rw [h1]; exact Blk.new w _ _
  clear h1
  have hal2 : Below w1.heap.size w1 w2 := by rw [h2]; exact (Below.refl _ _).alloc (Nat.le_refl _) _
  have hB : Blk w2 w1.heap.size Ty.ref03_Set [.slice (some ⟨w.heap.size, 0, none⟩) m m] := by rw [h2]; exact Blk.new w1 _ _
  clear h2
  have hg2 := hg.kp (Kp.of_below hal2) id
  have hlt := hg.lt
  rw [← ins_none] at hg2
  exact hK w2 _ _ ⟨w1.heap.size, w.heap.size, rfl, hal.size, Nat.le_refl _, by omega, hB, hg2, hm, rfl⟩ (hal.trans (hal2.mono hal.size))
theorem ref03_Set_Put_c {w : World} {b : Nat} {p : Option Addr} {n : Nat} {S : Nat → Bool} {F : Nat → Prop} {i : Int} {v : Bool} {K : Value → World → Prop} (h : RefV w b p n S F)
    (hK : ∀ w', RefV w' b p n (putS S n i v) F → Kp F w w' → K (.bool (canPut S n i v)) w') : CallsE Pg ref03_Set_Put.N #[.pointer p, .int .i64 i, .bool v] w K := by
  have no : canPut S n i v = false → K (.bool false) w := fun e => by
    have := hK w (by unfold putS; rw [e]; exact h) (Kp.refl _ _)
    rw [e] at this; exact this
  obtain ⟨t, g, rfl, h1, h2, h3, h4, h5, h6, rfl⟩ := h
  refine ref03_Set_Put.ok ?_
  refine cond_dec (fun hlt => ?_) (fun hge => ?_)
  · exact no (by unfold canPut; rw [decide_eq_false (by omega)]; rfl)
  refine ⟨_, rfl, _, _, _, h4.cell' (j := 0) rfl, cond_dec (fun hlt => ?_) (fun hlt => ?_)⟩
  · exact no (by unfold canPut; rw [decide_eq_false (by omega : ¬ i < n)]; simp)
  obtain ⟨k, rfl⟩ := Int.eq_ofNat_of_zero_le (show 0 ≤ i by omega)
  obtain ⟨a, ea, hc⟩ := (Cs.of_blk0 h5).at (bools_at (ins_at (S := S) (show k < n by omega)))
  cases ea
  rw [Int.toNat_natCast]
  refine ⟨_, rfl, _, _, _, h4.cell' (j := 0) rfl, ⟨by omega, by omega⟩, _, rfl, _, hc, ?_⟩
  by_cases hs : S k = v
  · rw [hs, beq_self_eq_true]
    exact no (by unfold canPut; rw [Int.toNat_natCast, hs]; simp)
  · have e1 : (S k == v) = false := by simpa using hs
    have e2 : canPut S n (k : Int) v = true := by
      unfold canPut
      rw [Int.toNat_natCast, decide_eq_true (by omega), decide_eq_true (by omega)]
      simpa using hs
    have e3 : putS S n (k : Int) v = upd S k v := by unfold putS; rw [if_pos e2, Int.toNat_natCast]
    rw [e2, e3] at hK
    rw [e1]
    unfold ref03_Set_Put.p1 ref03_Set_Put.p2
    rw [Int.toNat_natCast]
    refine ⟨_, rfl, _, _, _, h4.cell' (j := 0) rfl, ⟨by omega, by omega⟩, _, rfl, ?_⟩
    refine blk_set1 h5 (by rw [bools_len, ins_len]; omega) fun w' hB' hk' _ => ?_
    rw [bools_set, ins_set (by omega)] at hB'
    exact hK w' ⟨t, g, rfl, h1, h2, h3, h4.kp hk' (fun e => h3 e.symm), hB', h6, rfl⟩ (hk'.mono (fun i _ e => .inr e))
theorem rnext_loop {w : World} {b : Nat} {p : Option Addr} {n : Nat} {S : Nat → Bool} {F : Nat → Prop} {want : Bool} {K : Value → World → Prop} (h : RefV w b p n S F) : ∀ (d f : Nat), n ≤ f + d → K (.int .i64 (nxt S want f (n - f))) w → ref03_Set_Next.l0 K (d + 1) p want f w := by
  have h0 := h
  obtain ⟨t, g, rfl, h1, h2, h3, h4, h5, h6, rfl⟩ := h
  intro d
  induction d with
  | zero =>
    intro f hf hK
    rw [ref03_Set_Next.l0_succ]
    rw [nxt_end (by omega)] at hK
    exact ⟨_, rfl, _, _, _, h4.cell' (j := 0) rfl, cond_dec (fun h => by omega) (fun _ => hK)⟩
  | succ d ih =>
    intro f hf hK
    rw [ref03_Set_Next.l0_succ]
    refine ⟨_, rfl, _, _, _, h4.cell' (j := 0) rfl, cond_dec (fun hlt => ?_) (fun hlt => ?_)⟩
    · obtain ⟨a, ea, hc⟩ := (Cs.of_blk0 h5).at (bools_at (ins_at (S := S) (show f < n by omega)))
      cases ea
      rw [Int.toNat_natCast]
      refine ⟨_, rfl, _, _, _, h4.cell' (j := 0) rfl, ⟨by omega, by omega⟩, _, rfl, _, hc, ?_⟩
      by_cases hs : S f = want
      · rw [hs, beq_self_eq_true]
        rw [nxt_here (by omega) hs] at hK
        exact hK
      · have e1 : (S f == want) = false := by simpa using hs
        rw [e1, cst f (by omega)]
        refine ih (f + 1) (by omega) ?_
        rw [nxt_skip 1 f rfl (fun i i1 i2 => by
          have e : i = f := by omega
          rw [e]; exact hs)] at hK
        exact hK
    · rw [nxt_end (by omega)] at hK
      exact hK
theorem ref03_Set_Next_c {w : World} {b : Nat} {p : Option Addr} {n : Nat} {S : Nat → Bool} {F : Nat → Prop} {want : Bool} {i : Int} {K : Value → World → Prop} (h : RefV w b p n S F) (hK : K (.int .i64 (nextV S n want i)) w) : CallsE Pg ref03_Set_Next.N #[.pointer p, .int .i64 i, .bool want] w K := by
  refine ref03_Set_Next.ok ?_
  have e : imax 0 i = ((i.toNat : Nat) : Int) := by unfold imax; split <;> omega
  unfold ref03_Set_Next.F ref03_Set_Next.p0
  rw [e]
  exact ⟨n + 1, rnext_loop h n i.toNat (by omega) hK⟩
theorem rlist_loop {w0 : World} {b : Nat} {p : Option Addr} {n : Nat} {S : Nat → Bool} {F : Nat → Prop} {K : Value → World → Prop} (h : RefV w0 b p n S F)
    (hK : ∀ A m c w', m = (memL S 0 n).length → w'.ownsRow w0.heap.size Ty.int 1 (.slice A m c) m (nums .i64 (memL S 0 n)) → Below w0.heap.size w0 w' → K (.slice A m c) w') :
    ∀ (d f : Nat) (w : World) (acc : List Int) (A : Option Addr) (c : Nat), f + d = n → Below w0.heap.size w0 w → w.ownsRow w0.heap.size Ty.int 1 (.slice A acc.length c) acc.length (nums .i64 acc) → acc ++ memL S f d = memL S 0 n →
      ref03_Set_List.l0 K (d + 1) p A acc.length c n f w := by
  have hsz := h.size
  have hll := @memL_le S 0 n
  intro d
  induction d with
  | zero =>
    intro f w acc A c hf hb ho he
    rw [ref03_Set_List.l0_succ]
    simp only [memL, List.append_nil] at he
    show condP (decide ((f : Int) < _)) _ _
    refine cond_dec (fun h => by omega) (fun _ => hK A _ c w (by rw [he]) ?_ hb)
    rw [← he]; exact ho
  | succ d ih =>
    intro f w acc A c hf hb ho he
    rw [ref03_Set_List.l0_succ]
    show condP (decide ((f : Int) < _)) _ _
    refine cond_dec (fun _ => ?_) (fun h => absurd h (by omega))
    have h' := h.below hb
    obtain ⟨t, g, rfl, h1, h2, h3, h4, h5, h6, hF⟩ := h'
    obtain ⟨a, ea, hc⟩ := (Cs.of_blk0 h5).at (bools_at (ins_at (S := S) (show f < n by omega)))
    cases ea
    unfold ref03_Set_List.p4
    rw [Int.toNat_natCast]
    refine ⟨_, rfl, _, _, _, h4.cell' (j := 0) rfl, ⟨by omega, by omega⟩, _, rfl, _, hc, ?_⟩
    rw [memL] at he
    cases hs : S f with
    | false =>
      rw [hs] at he
      show ref03_Set_List.l0 K (d + 1) _ A acc.length c n (IntKind.wrap .i64 ((f : Int) + 1)) w
      rw [cst f (by omega)]
      exact ih (f + 1) w acc A c (by omega) hb ho he
    | true =>
      rw [hs] at he
      refine condP_t (wlet_intro fun w1 hw1 => ?_)
      have hal : Below w.heap.size w w1 := by rw [hw1]; exact (Below.refl _ _).alloc (Nat.le_refl _) _
      have hz : Blk w1 w.heap.size Ty.int (nums .i64 [(f : Int)]) := by rw [hw1]; exact Blk.new w Ty.int _
      clear hw1
      have b1 := hb.trans (hal.mono hb.size)
      have ho1 := own_below_kp ho hal
      have hla : acc.length ≤ 65536 := by have := congrArg List.length he; rw [List.length_append] at this; omega
      refine app_i64 (m := 1) ho1 rfl (Cs.of_blk0 hz) (by omega) b1.size fun A' c' w2 ho2 hm2 => ⟨_, _, _, rfl, ?_⟩
      have b2 := b1.trans (hm2.kp.below b1.size fun i hi e => by have := (own_lt ho1 e).1; omega)
      show ref03_Set_List.l0 K (d + 1) _ A' _ c' n (IntKind.wrap .i64 ((f : Int) + 1)) w2
      rw [cst f (by omega)]
      have el : acc.length + 1 = (acc ++ [(f : Int)]).length := by simp
      rw [el] at ho2 ⊢
      exact ih (f + 1) w2 _ A' c' (by omega) b2 ho2 (by rw [List.append_assoc]; exact he)
theorem ref03_Set_List_c {w : World} {b : Nat} {p : Option Addr} {n : Nat} {S : Nat → Bool} {F : Nat → Prop} {K : Value → World → Prop} (h : RefV w b p n S F)
    (hK : ∀ A m c w', m = (memL S 0 n).length → w'.ownsRow w.heap.size Ty.int 1 (.slice A m c) m (nums .i64 (memL S 0 n)) → Below w.heap.size w w' → K (.slice A m c) w') : CallsE Pg ref03_Set_List.N #[.pointer p] w K := by
  have h0 := h
  obtain ⟨t, g, rfl, h1, h2, h3, h4, h5, h6, rfl⟩ := h
  exact ref03_Set_List.ok ⟨_, rfl, _, _, _, h4.cell' (j := 0) rfl, n + 1, rlist_loop h0 hK n 0 w [] none 0 (by omega) (Below.refl _ _) (World.ownsRow_nil _ _ _ _) rfl⟩
theorem valF_snoc (S : Nat → Bool) (b j : Nat) : valF S b (j + 1) = valF S b j + (S (b + j)).toNat * 2 ^ j := by
  have h1 := valF_mod S b (j + 1) j (by omega)
  have h2 := valF_div S b (j + 1) j (by omega)
  have e : j + 1 - j = 1 := by omega
  have e2 : valF S (b + j) 1 = (S (b + j)).toNat := by simp [valF]
  rw [e, e2] at h2
  have := Nat.div_add_mod (valF S b (j + 1)) (2 ^ j)
  rw [h1, h2, Nat.mul_comm] at this
  omega
theorem valF_cut {S : Nat → Bool} {n b j : Nat} (hS : Within S n) (h : n ≤ b + j) : ∀ m, valF S b (j + m) = valF S b j
  | 0 => rfl
  | m + 1 => by
    have e : j + (m + 1) = j + m + 1 := by omega
    rw [e, valF_snoc, valF_cut hS h m, hS (b + (j + m)) (by omega)]; simp
theorem rbyte_loop {w : World} {b : Nat} {p : Option Addr} {n : Nat} {S : Nat → Bool} {F : Nat → Prop} {A : Option Addr} {m c i : Nat} {L0 : Option Addr → Option Addr → Nat → Nat → Int → World → Prop} {K : Value → World → Prop} (h : RefV w b p n S F) (hS : Within S n) (hi : i ≤ 65536)
    (hK : ref03_Set_Bytes.p10 L0 K p A m c i ((valF S i 8 : Nat) : Int) w) : ∀ (d j : Nat), j + d = 8 → ref03_Set_Bytes.l1 L0 K (d + 1) p A m c i ((valF S i j : Nat) : Int) ((2 ^ j : Nat) : Int) ((i + j : Nat) : Int) w := by
  have h0 := h
  have hsz := h.size
  obtain ⟨t, g, rfl, h1, h2, h3, h4, h5, h6, rfl⟩ := h
  have e8 : IntKind.wrap .i64 ((i : Int) + 8) = ((i + 8 : Nat) : Int) := by rw [wrap64_in (by omega) (by omega)]; push_cast; rfl
  intro d
  induction d with
  | zero =>
    intro j hj
    rw [ref03_Set_Bytes.l1_succ]
    unfold ref03_Set_Bytes.b1
    rw [e8]
    obtain rfl : j = 8 := by omega
    exact cond_dec (fun h => absurd h (by omega)) (fun _ => hK)
  | succ d ih =>
    intro j hj
    rw [ref03_Set_Bytes.l1_succ]
    unfold ref03_Set_Bytes.b1
    rw [e8]
    refine cond_dec (fun _ => ?_) (fun h => absurd h (by omega))
    refine ⟨_, rfl, _, _, _, h4.cell' (j := 0) rfl, ?_⟩
    show condP (decide (((i + j : Nat) : Int) < _)) _ _
    refine cond_dec (fun hlt => ?_) (fun hge => ?_)
    · obtain ⟨a, ea, hc⟩ := (Cs.of_blk0 h5).at (bools_at (ins_at (S := S) (show i + j < n by omega)))
      cases ea
      unfold ref03_Set_Bytes.p7
      rw [Int.toNat_natCast]
      refine ⟨_, rfl, _, _, _, h4.cell' (j := 0) rfl, ⟨by omega, by omega⟩, _, rfl, _, hc, ?_⟩
      have hv := valF_lt S j i
      have hp : 2 ^ j ≤ 128 := by have : 2 ^ j ≤ 2 ^ 7 := Nat.pow_le_pow_right (by decide) (by omega); omega
      have hsn := valF_snoc S i j
      have hp2 : IntKind.wrap .i64 (((2 ^ j : Nat) : Int) * 2) = ((2 ^ (j + 1) : Nat) : Int) := by
        rw [Nat.pow_succ]
        generalize 2 ^ j = q at hp
        rw [wrap64_in (by omega) (by omega)]; push_cast; rfl
      have next : ∀ x : Int, x = ((valF S i (j + 1) : Nat) : Int) → ref03_Set_Bytes.p8 (ref03_Set_Bytes.l1 L0 K (d + 1)) L0 K (some ⟨t, 0, none⟩) A m c i x ((2 ^ j : Nat) : Int) ((i + j : Nat) : Int) w := fun x hx => by
        subst hx
        show ref03_Set_Bytes.l1 L0 K (d + 1) _ A m c i _ (IntKind.wrap .i64 (((2 ^ j : Nat) : Int) * 2)) (IntKind.wrap .i64 (((i + j : Nat) : Int) + 1)) w
        rw [hp2, cst _ (by omega)]
        exact ih (j + 1) (by omega)
      cases hs : S (i + j) with
      | false =>
        rw [hs] at hsn
        exact next _ (by rw [hsn]; simp)
      | true =>
        rw [hs] at hsn
        refine next _ ?_
        rw [hsn]
        generalize 2 ^ j = q at hp hv
        rw [wrap64_in (by omega) (by omega)]
        simp
    · have e : valF S i 8 = valF S i j := by
        have := valF_cut (S := S) (n := n) (b := i) (j := j) hS (by omega) (8 - j)
        have e2 : j + (8 - j) = 8 := by omega
        rw [e2] at this
        exact this
      rw [e] at hK
      exact hK
theorem rbytes_loop {w0 : World} {b : Nat} {p : Option Addr} {n : Nat} {S : Nat → Bool} {F : Nat → Prop} {K : Value → World → Prop} (h : RefV w0 b p n S F) (hS : Within S n)
    (hK : ∀ A c w', w'.ownsRow w0.heap.size Ty.uint8 1 (.slice A ((n + 7) / 8) c) ((n + 7) / 8) (nums .u8 (bytL S n)) → Below w0.heap.size w0 w' → K (.slice A ((n + 7) / 8) c) w') :
    ∀ (d k : Nat) (w : World) (A : Option Addr) (c : Nat), k + d = (n + 7) / 8 → Below w0.heap.size w0 w → w.ownsRow w0.heap.size Ty.uint8 1 (.slice A k c) k (nums .u8 ((bytL S n).take k)) → ref03_Set_Bytes.l0 K (d + 1) p A k c ((8 * k : Nat) : Int) w := by
  have hsz := h.size
  intro d
  induction d with
  | zero =>
    intro k w A c hk hb ho
    rw [ref03_Set_Bytes.l0_succ]
    have h' := h.below hb
    obtain ⟨t, g, rfl, h1, h2, h3, h4, h5, h6, hF⟩ := h'
    refine ⟨_, rfl, _, _, _, h4.cell' (j := 0) rfl, cond_dec (fun h => by omega) (fun _ => ?_)⟩
    obtain rfl : k = (n + 7) / 8 := by omega
    rw [List.take_of_length_le (by rw [bytL_len]; exact Nat.le_refl _)] at ho
    exact hK A c w ho hb
  | succ d ih =>
    intro k w A c hk hb ho
    rw [ref03_Set_Bytes.l0_succ]
    have h' := h.below hb
    have h'' := h'
    obtain ⟨t, g, rfl, h1, h2, h3, h4, h5, h6, hF⟩ := h'
    refine ⟨_, rfl, _, _, _, h4.cell' (j := 0) rfl, cond_dec (fun _ => ?_) (fun h => absurd h (by omega))⟩
    refine ⟨9, ?_⟩
    refine rbyte_loop (i := 8 * k) h'' hS (by omega) ?_ 8 0 rfl
    have hv := valF_byte S (8 * k)
    have ew : IntKind.wrap .u8 ((valF S (8 * k) 8 : Nat) : Int) = ((valF S (8 * k) 8 : Nat) : Int) := by rw [wrapu8_eq]; omega
    unfold ref03_Set_Bytes.p10
    rw [ew]
    refine wlet_intro fun w1 hw1 => ?_
    have hal : Below w.heap.size w w1 := by rw [hw1]; exact (Below.refl _ _).alloc (Nat.le_refl _) _
    have hz : Blk w1 w.heap.size Ty.uint8 (nums .u8 [((valF S (8 * k) 8 : Nat) : Int)]) := by rw [hw1]; exact Blk.new w Ty.uint8 _
    clear hw1
    have b1 := hb.trans (hal.mono hb.size)
    have ho1 := own_below_kp ho hal
    refine app_bytes (m := 1) ho1 rfl (Cs.of_blk0 hz) (by omega) b1.size fun A' c' w2 ho2 hm2 => ⟨_, _, _, rfl, ?_⟩
    have b2 := b1.trans (hm2.kp.below b1.size fun i hi e => by have := (own_lt ho1 e).1; omega)
    have et : (bytL S n).take k ++ [((valF S (8 * k) 8 : Nat) : Int)] = (bytL S n).take (k + 1) := by
      rw [take_snoc]
      have : k < (n + 7) / 8 := by omega
      simp [bytL, this]
    rw [et] at ho2
    have e8 : IntKind.wrap .i64 (((8 * k : Nat) : Int) + 8) = ((8 * (k + 1) : Nat) : Int) := by rw [wrap64_in (by omega) (by omega)]; push_cast; omega
    show ref03_Set_Bytes.l0 K (d + 1) _ A' (k + 1) c' (IntKind.wrap .i64 (((8 * k : Nat) : Int) + 8)) w2
    rw [e8]
    exact ih (k + 1) w2 A' c' (by omega) b2 ho2
theorem ref03_Set_Bytes_c {w : World} {b : Nat} {p : Option Addr} {n : Nat} {S : Nat → Bool} {F : Nat → Prop} {K : Value → World → Prop} (h : RefV w b p n S F) (hS : Within S n)
    (hK : ∀ A c w', w'.ownsRow w.heap.size Ty.uint8 1 (.slice A ((n + 7) / 8) c) ((n + 7) / 8) (nums .u8 (bytL S n)) → Below w.heap.size w w' → K (.slice A ((n + 7) / 8) c) w') : CallsE Pg ref03_Set_Bytes.N #[.pointer p] w K :=
  ref03_Set_Bytes.ok ⟨(n + 7) / 8 + 1, rbytes_loop h hS hK _ 0 w none 0 (by omega) (Below.refl _ _) (by rw [List.take_zero]; exact World.ownsRow_nil _ _ _ _)⟩
/-! ### sets out of bytes -/
def bitsOf (bs : List Int) : Nat → Bool := fun i => (bs.getD (i / 8) 0).toNat.testBit (i % 8)
def readB (bs : List Int) (m : Nat) : Nat → Bool := fun i => decide (i < m) && bitsOf bs i
theorem bitsOf_at {bs : List Int} {k j : Nat} {x : Int} (h : bs[k]? = some x) (hj : j < 8) : bitsOf bs (8 * k + j) = x.toNat.testBit j := by
  unfold bitsOf
  have e1 : (8 * k + j) / 8 = k := by omega
  have e2 : (8 * k + j) % 8 = j := by omega
  rw [e1, e2, List.getD_eq_getElem?_getD, h]; rfl
theorem bitsOf_end {bs : List Int} {i : Nat} (h : 8 * bs.length ≤ i) : bitsOf bs i = false := by
  unfold bitsOf
  rw [List.getD_eq_getElem?_getD, List.getElem?_eq_none (by omega)]
  exact Nat.zero_testBit _
theorem readB_end (bs : List Int) : readB bs (8 * bs.length) = bitsOf bs := funext fun i => by
  unfold readB
  by_cases h : i < 8 * bs.length
  · rw [decide_eq_true h]; rfl
  · rw [decide_eq_false h, bitsOf_end (by omega)]; rfl
theorem readB_0 (bs : List Int) : readB bs 0 = noneS := funext fun i => by unfold readB noneS; simp
def badB (bs : List Int) (n : Nat) : Bool := (List.range (8 * bs.length)).any fun i => decide (n ≤ i) && bitsOf bs i
theorem bad_of {bs : List Int} {n i : Nat} (h : n ≤ i) (hb : bitsOf bs i = true) : badB bs n = true := by
  have hi : i < 8 * bs.length := by
    by_cases h : i < 8 * bs.length
    · exact h
    · rw [bitsOf_end (by omega)] at hb; cases hb
  unfold badB
  rw [List.any_eq_true]
  exact ⟨i, by simpa using hi, by rw [decide_eq_true h, hb]; rfl⟩
theorem bad_no {bs : List Int} {n : Nat} (h : ∀ i, n ≤ i → bitsOf bs i = false) : badB bs n = false := by
  cases hb : badB bs n with
  | false => rfl
  | true =>
    unfold badB at hb
    rw [List.any_eq_true] at hb
    obtain ⟨i, _, h2⟩ := hb
    simp only [Bool.and_eq_true, decide_eq_true_eq] at h2
    rw [h i h2.1] at h2
    exact absurd h2.2 (by simp)
def rdErr (bs : List Int) (n : Int) : Int := if n < 0 ∨ 65536 < n then 2 else if (bs.length : Int) < (n + 7) / 8 then 3 else if (n + 7) / 8 < bs.length then 6 else if badB bs n.toNat = true then 4 else 0
theorem shlN {x s : Nat} (hs : s < 64) (h : x * 2 ^ s < 18446744073709551616) : ishl .u64 (x : Int) (s : Int) = ((x * 2 ^ s : Nat) : Int) := by
  unfold ishl
  have h1 : min (s : Int).toNat (IntKind.u64).bits = s := by
    have : (IntKind.u64).bits = 64 := rfl
    rw [this, Int.toNat_natCast]; omega
  have e : (x : Int) * 2 ^ s = ((x * 2 ^ s : Nat) : Int) := by push_cast; rfl
  rw [h1, e]
  generalize x * 2 ^ s = q at h
  exact wrapu64_in (by omega) (by omega)
theorem wd_read {bs : List Int} {k : Nat} {x : Nat} (h : bs[k]? = some (x : Int)) (hx : x < 256) : wd (readB bs (8 * (k + 1))) (k / 8) = wd (readB bs (8 * k)) (k / 8) ||| (x * 2 ^ (8 * (k % 8))) := by
  apply Nat.eq_of_testBit_eq
  intro j
  rw [Nat.testBit_or, wd_bit, wd_bit, ← Nat.shiftLeft_eq, Nat.testBit_shiftLeft]
  unfold readB
  by_cases h64 : j < 64
  · rw [decide_eq_true h64, Bool.true_and, Bool.true_and]
    by_cases h1 : 64 * (k / 8) + j < 8 * k
    · rw [decide_eq_true h1, decide_eq_true (show 64 * (k / 8) + j < 8 * (k + 1) by omega), decide_eq_false (show ¬ j ≥ 8 * (k % 8) by omega)]; simp
    · rw [decide_eq_false h1, decide_eq_true (show j ≥ 8 * (k % 8) by omega), Bool.false_and, Bool.false_or, Bool.true_and]
      by_cases h2 : 64 * (k / 8) + j < 8 * (k + 1)
      · rw [decide_eq_true h2, Bool.true_and]
        have e : 64 * (k / 8) + j = 8 * k + (j - 8 * (k % 8)) := by omega
        rw [e, bitsOf_at h (by omega), Int.toNat_natCast]
      · rw [decide_eq_false h2, Bool.false_and]
        refine (Nat.testBit_lt_two_pow ?_).symm
        have : 2 ^ 8 ≤ 2 ^ (j - 8 * (k % 8)) := Nat.pow_le_pow_right (by decide) (by omega)
        omega
  · rw [decide_eq_false h64, Bool.false_and, Bool.false_and, Bool.false_or]
    by_cases h3 : j ≥ 8 * (k % 8)
    · rw [decide_eq_true h3, Bool.true_and]
      refine (Nat.testBit_lt_two_pow ?_).symm
      have : 2 ^ 8 ≤ 2 ^ (j - 8 * (k % 8)) := Nat.pow_le_pow_right (by decide) (by omega)
      omega
    · rw [decide_eq_false h3]; rfl
theorem ws_read {bs : List Int} {k W : Nat} (h : k / 8 < W) : (ws (readB bs (8 * k)) W).set (k / 8) ((wd (readB bs (8 * (k + 1))) (k / 8) : Nat) : Int) = ws (readB bs (8 * (k + 1))) W := by
  apply List.ext_getElem?
  intro i
  rw [List.getElem?_set]
  by_cases hk : k / 8 = i
  · rw [if_pos hk, ws_len, if_pos h, ← hk, ws_at h]
  · rw [if_neg hk]
    by_cases hw : i < W
    · rw [ws_at hw, ws_at hw]
      have : wd (readB bs (8 * k)) i = wd (readB bs (8 * (k + 1))) i := valF_same 64 (64 * i) fun j h1 h2 => by
        unfold readB
        congr 1
        exact decide_eq_decide.2 (by omega)
      rw [this]
    · rw [List.getElem?_eq_none (by rw [ws_len]; omega), List.getElem?_eq_none (by rw [ws_len]; omega)]
theorem sread_end {w0 w : World} {b n : Nat} {p : Option Addr} {bs : List Int} {F : Nat → Prop} {K : Value → World → Prop} (hlen : bs.length = (n + 7) / 8) (hbw : Below w0.heap.size w0 w)
    (hE : ∀ w', badB bs n = true → Below w0.heap.size w0 w' → K (.tuple #[.pointer none, .int .i64 4]) w')
    (hK : ∀ w', badB bs n = false → SetV w' b p n (bitsOf bs) F → Below w0.heap.size w0 w' → K (.tuple #[.pointer p, .int .i64 0]) w') (h : SetV w b p n (bitsOf bs) F) : set_Read.p10 K n p w := by
  have h0 := h
  obtain ⟨t, g, rfl, h1, h2, h3, h4, h5, h6, rfl⟩ := h
  have ed := tdivN n 64 (by omega)
  have em := tmodN n 64
  rw [show ((64 : Nat) : Int) = 64 from rfl] at ed em
  unfold set_Read.p10
  rw [ed, em, Int.toNat_natCast]
  refine ⟨by decide, cond_ne (fun hm => ?_) (fun hm => ?_)⟩
  · obtain ⟨a, ea, hc⟩ := (Cs.of_blk0 h5).at (nums_at (ws_at (S := bitsOf bs) (show n / 64 < (n + 63) / 64 by omega)))
    refine ⟨_, rfl, _, _, _, h4.cell' (j := 1) rfl, by decide, ⟨by omega, by omega⟩, a, ea, _, hc, by decide, by omega, ?_⟩
    rw [shrN _ _ (by omega)]
    have hbit : ∀ i, (wd (bitsOf bs) (n / 64) / 2 ^ (n % 64)).testBit i = (decide (i + n % 64 < 64) && bitsOf bs (n + i)) := fun i => by
      rw [Nat.testBit_div_two_pow, wd_bit]
      have : 64 * (n / 64) + (i + n % 64) = n + i := by omega
      rw [this]
    have hvl : wd (bitsOf bs) (n / 64) / 2 ^ (n % 64) < 18446744073709551616 := Nat.lt_of_le_of_lt (Nat.div_le_self _ _) (wd_lt _ _)
    generalize wd (bitsOf bs) (n / 64) / 2 ^ (n % 64) = v at hbit hvl
    refine cond_ne (fun hv => ?_) (fun hv => ?_)
    · obtain ⟨_, z2, _⟩ := tz_spec (show v ≠ 0 by omega) hvl
      rw [hbit] at z2
      simp only [Bool.and_eq_true, decide_eq_true_eq] at z2
      exact hE w (bad_of (Nat.le_add_right _ _) z2.2) hbw
    · refine hK w (bad_no fun i hi => ?_) h0 hbw
      have hv0 : v = 0 := by omega
      subst hv0
      by_cases hin : i < 64 * (n / 64) + 64
      · have := hbit (i - n)
        have e : n + (i - n) = i := by omega
        rw [e, decide_eq_true (by omega), Bool.true_and, Nat.zero_testBit] at this
        exact this.symm
      · exact bitsOf_end (by omega)
  · refine hK w (bad_no fun i hi => bitsOf_end (by omega)) h0 hbw
theorem sread_loop {w0 : World} {b n : Nat} {p A : Option Addr} {m c : Nat} {bs : List Int} {F : Nat → Prop} {K : Value → World → Prop} (hx : Cs w0 A (nums .u8 bs)) (hm : m = bs.length) (hby : Bytes bs) (hbb : w0.heap.size ≤ b) (hlen : bs.length = (n + 7) / 8) (hn : n ≤ 65536)
    (hE : ∀ w', badB bs n = true → Below w0.heap.size w0 w' → K (.tuple #[.pointer none, .int .i64 4]) w')
    (hK : ∀ w', badB bs n = false → SetV w' b p n (bitsOf bs) F → Below w0.heap.size w0 w' → K (.tuple #[.pointer p, .int .i64 0]) w') :
    ∀ (d k : Nat) (w : World), k + d = m → Below w0.heap.size w0 w → SetV w b p n (readB bs (8 * k)) F → set_Read.l0 K (d + 1) n p A m c m k w := by
  intro d
  induction d with
  | zero =>
    intro k w hk hb h
    rw [set_Read.l0_succ]
    show condP (decide ((k : Int) < _)) _ _
    refine cond_dec (fun h => by omega) (fun _ => ?_)
    have e : 8 * k = 8 * bs.length := by omega
    rw [e, readB_end] at h
    exact sread_end hlen hb hE hK h
  | succ d ih =>
    intro k w hk hb h
    rw [set_Read.l0_succ]
    show condP (decide ((k : Int) < _)) _ _
    refine cond_dec (fun _ => ?_) (fun h => absurd h (by omega))
    have hxk : bs[k]? = some bs[k] := List.getElem?_eq_getElem (by omega)
    have hbk := hby _ (List.getElem_mem (by omega : k < bs.length))
    obtain ⟨x, hxe⟩ : ∃ x : Nat, bs[k] = x := ⟨bs[k].toNat, by omega⟩
    rw [hxe] at hbk hxk
    obtain ⟨a, rfl, c0⟩ := (hx.below hb).at (nums_at hxk)
    unfold set_Read.p7
    rw [Int.toNat_natCast]
    refine ⟨⟨by omega, by omega⟩, a, rfl, _, c0, ?_⟩
    obtain ⟨t, g, rfl, h1, h2, h3, h4, h5, h6, rfl⟩ := h
    have ed := tdivN k 8 (by omega)
    have em := tmodN k 8
    rw [show ((8 : Nat) : Int) = 8 from rfl] at ed em
    have e8 : IntKind.wrap .i64 (8 * ((k % 8 : Nat) : Int)) = ((8 * (k % 8) : Nat) : Int) := by rw [wrap64_in (by omega) (by omega)]; push_cast; rfl
    have exu : IntKind.wrap .u64 (x : Int) = (x : Int) := wrapu64_in (by omega) (by omega)
    unfold set_Read.p8
    rw [ed, em, e8, exu, Int.toNat_natCast]
    have hkw : k / 8 < (n + 63) / 64 := by omega
    have hc : w.cell? ((⟨g, 0, none⟩ : Addr).add (k / 8)) = some (.int .u64 ((wd (readB bs (8 * k)) (k / 8) : Nat) : Int)) := by
      obtain ⟨a, ea, hc⟩ := (Cs.of_blk0 h5).at (nums_at (k := .u64) (ws_at (S := readB bs (8 * k)) hkw))
      cases ea
      exact hc
    refine ⟨fun H => H = w.heap, rfl, _, rfl, by decide, by decide, by omega, _, _, _, fun w' e => held (h4.cell' (j := 1) rfl) w' e, ⟨by omega, by omega⟩, _, rfl, _, fun w' e => held hc w' e, ⟨by omega, by omega⟩, _, rfl, ?_⟩
    have hsm : x * 2 ^ (8 * (k % 8)) < 18446744073709551616 := by
      have h1 : 2 ^ (8 * (k % 8)) ≤ 2 ^ 56 := Nat.pow_le_pow_right (by decide) (by omega)
      have h2 : x * 2 ^ (8 * (k % 8)) ≤ 255 * 2 ^ 56 := Nat.mul_le_mul (by omega) h1
      omega
    rw [shlN (by omega) hsm, ibits_or (wd_lt _ _) hsm, ← wd_read hxk (by omega)]
    refine blk_set1 (k := k / 8) h5 (by rw [nums_len, ws_len]; exact hkw) fun w' hB' hk' _ => ?_
    rw [nums_set, ws_read hkw] at hB'
    show set_Read.l0 K (d + 1) n _ (some a) m c m (IntKind.wrap .i64 ((k : Int) + 1)) w'
    rw [cst k (by omega)]
    exact ih (k + 1) w' (by omega) (hb.trans (hk'.below hb.size fun i hi e => by omega)) ⟨t, g, rfl, h1, h2, h3, h4.kp hk' (fun e => h3 e.symm), hB', h6, rfl⟩
theorem set_Read_c {w : World} {A : Option Addr} {m c : Nat} {bs : List Int} {n : Int} {K : Value → World → Prop} (hx : Cs w A (nums .u8 bs)) (hm : m = bs.length) (hby : Bytes bs)
    (hE : ∀ w', rdErr bs n ≠ 0 → Below w.heap.size w w' → K (.tuple #[.pointer none, .int .i64 (rdErr bs n)]) w')
    (hK : ∀ w' p F, rdErr bs n = 0 → 0 ≤ n → SetV w' w.heap.size p n.toNat (bitsOf bs) F → Below w.heap.size w w' → K (.tuple #[.pointer p, .int .i64 0]) w') : CallsE Pg set_Read.N #[.int .i64 n, .slice A m c] w K := by
  refine set_Read.ok ?_
  have e2 : (n < 0 ∨ 65536 < n) → K (.tuple #[.pointer none, .int .i64 2]) w := fun h => by
    have e : rdErr bs n = 2 := by unfold rdErr; rw [if_pos h]
    rw [e] at hE
    exact hE w (by decide) (Below.refl _ _)
  refine cond_dec (fun h => e2 (.inl h)) (fun h0 => ?_)
  show condP (decide (65536 < n)) _ _
  refine cond_dec (fun h => e2 (.inr h)) (fun h1 => ?_)
  obtain ⟨k, rfl⟩ := Int.eq_ofNat_of_zero_le (show 0 ≤ n by omega)
  have e1 : IntKind.wrap .i64 (Int.tdiv (IntKind.wrap .i64 ((k : Int) + 7)) 8) = (((k + 7) / 8 : Nat) : Int) := by
    rw [wrap64_in (x := (k : Int) + 7) (by omega) (by omega), Int.tdiv_eq_ediv_of_nonneg (by omega), wrap64_in (by omega) (by omega)]; omega
  unfold set_Read.p2
  rw [e1]
  refine ⟨by decide, cond_dec (fun h => ?_) (fun h2 => cond_dec (fun h => ?_) (fun h3 => ?_))⟩
  · have e : rdErr bs (k : Int) = 3 := by unfold rdErr; rw [if_neg (by omega), if_pos (by omega)]
    rw [e] at hE
    exact hE w (by decide) (Below.refl _ _)
  · have e : rdErr bs (k : Int) = 6 := by unfold rdErr; rw [if_neg (by omega), if_neg (by omega), if_pos (by omega)]
    rw [e] at hE
    exact hE w (by decide) (Below.refl _ _)
  · have e : rdErr bs (k : Int) = if badB bs k = true then 4 else 0 := by unfold rdErr; rw [if_neg (by omega), if_neg (by omega), if_neg (by omega), Int.toNat_natCast]
    rw [e] at hE hK
    rw [Int.toNat_natCast] at hK
    refine set_New_c fun w1 p F hS b1 => ⟨_, rfl, m + 1, ?_⟩
    have ec : clampN (k : Int) = k := by have := (clampN_eq (k : Int)).1; unfold imax imin at this; (repeat' split at this) <;> omega
    rw [ec] at hS
    refine sread_loop hx hm hby (Nat.le_refl _) (by omega) (by omega) (fun w' hb hbl => ?_) (fun w' hb hs hbl => ?_) m 0 w1 (by omega) b1 (by rw [Nat.mul_zero, readB_0]; exact hS)
    · rw [if_pos hb] at hE
      exact hE w' (by decide) hbl
    · rw [if_neg (by rw [hb]; decide)] at hK
      exact hK w' p F rfl (by omega) hs hbl
theorem readB_succ_true {bs : List Int} {m : Nat} (h : bitsOf bs m = true) : upd (readB bs m) m true = readB bs (m + 1) := funext fun i => by
  unfold upd readB
  by_cases hi : i = m
  · rw [if_pos hi, hi, h, decide_eq_true (by omega)]; rfl
  · rw [if_neg hi]
    congr 1
    exact decide_eq_decide.2 (by omega)
theorem readB_succ_false {bs : List Int} {m : Nat} (h : bitsOf bs m = false) : readB bs m = readB bs (m + 1) := funext fun i => by
  unfold readB
  by_cases hi : i = m
  · rw [hi, h]; simp
  · congr 1
    exact decide_eq_decide.2 (by omega)
theorem rread_byte {w0 : World} {b n : Nat} {p A : Option Addr} {m c k x : Nat} {bs : List Int} {F : Nat → Prop} {L0 : Int → Option Addr → Nat → Nat → Option Addr → Int → Int → World → Prop} {K : Value → World → Prop} (hxk : bs[k]? = some (x : Int)) (hx : x < 256) (hbb : w0.heap.size ≤ b) (hlen : bs.length = (n + 7) / 8) (hn : n ≤ 65536) (hkl : k < bs.length)
    (hE : ∀ w', badB bs n = true → Below w0.heap.size w0 w' → K (.tuple #[.pointer none, .int .i64 4]) w')
    (hK : ∀ w', Below w0.heap.size w0 w' → RefV w' b p n (readB bs (8 * (k + 1))) F → (∀ i, i < 8 * (k + 1) → n ≤ i → bitsOf bs i = false) → ref03_Read.p16 L0 K n A m c p m k w') :
    ∀ (d j : Nat) (w : World), j + d = 8 → Below w0.heap.size w0 w → RefV w b p n (readB bs (8 * k + j)) F → (∀ i, i < 8 * k + j → n ≤ i → bitsOf bs i = false) → ref03_Read.l1 L0 K (d + 1) n A m c p k ((x / 2 ^ j : Nat) : Int) j m k w := by
  intro d
  induction d with
  | zero =>
    intro j w hj hb h hno
    rw [ref03_Read.l1_succ]
    obtain rfl : j = 8 := by omega
    exact cond_dec (fun h => absurd h (by omega)) (fun _ => hK w hb h hno)
  | succ d ih =>
    intro j w hj hb h hno
    rw [ref03_Read.l1_succ]
    refine cond_dec (fun _ => ?_) (fun h => absurd h (by omega))
    have hxl : x / 2 ^ j ≤ x := Nat.div_le_self _ _
    have e2 := tmodN (x / 2 ^ j) 2
    have ed := tdivN (x / 2 ^ j) 2 (by omega)
    rw [show ((2 : Nat) : Int) = 2 from rfl] at e2 ed
    have ep : x / 2 ^ j / 2 = x / 2 ^ (j + 1) := by rw [Nat.div_div_eq_div_mul, Nat.pow_succ]
    rw [ep] at ed
    have hbit := bitsOf_at hxk (show j < 8 by omega)
    rw [Int.toNat_natCast, Nat.testBit_eq_decide_div_mod_eq] at hbit
    have ei : IntKind.wrap .i64 (IntKind.wrap .i64 (8 * (k : Int)) + (j : Int)) = ((8 * k + j : Nat) : Int) := by
      rw [wrap64_in (x := 8 * (k : Int)) (by omega) (by omega), wrap64_in (by omega) (by omega)]; push_cast; rfl
    have next : ∀ w', Below w0.heap.size w0 w' → RefV w' b p n (readB bs (8 * k + (j + 1))) F → (∀ i, i < 8 * k + (j + 1) → n ≤ i → bitsOf bs i = false) → ref03_Read.p14 (ref03_Read.l1 L0 K (d + 1)) L0 K n A m c p k ((x / 2 ^ j : Nat) : Int) j m k w' := fun w' g1 g2 g3 => by
      unfold ref03_Read.p14
      rw [ed]
      refine ⟨by decide, ?_⟩
      show ref03_Read.l1 L0 K (d + 1) n A m c p k _ (IntKind.wrap .i64 ((j : Int) + 1)) m k w'
      rw [cst j (by omega)]
      exact ih (j + 1) w' (by omega) g1 g2 g3
    unfold ref03_Read.p13
    rw [e2, ei]
    refine ⟨by decide, cond_eq (fun h1 => ?_) (fun h1 => ?_)⟩
    · have hbt : bitsOf bs (8 * k + j) = true := by rw [hbit, decide_eq_true (by omega)]
      refine cond_dec (fun hge => hE w (bad_of (by omega) hbt) hb) (fun hlt => ?_)
      obtain ⟨t, g, rfl, h1, h2, h3, h4, h5, h6, rfl⟩ := h
      rw [Int.toNat_natCast]
      refine ⟨_, rfl, _, _, _, h4.cell' (j := 0) rfl, ⟨by omega, by omega⟩, _, rfl, ?_⟩
      refine blk_set1 (k := 8 * k + j) h5 (by rw [bools_len, ins_len]; omega) fun w' hB' hk' _ => ?_
      rw [bools_set, ins_set (by omega), readB_succ_true hbt] at hB'
      refine next w' (hb.trans (hk'.below hb.size fun i hi e => by omega)) ⟨t, g, rfl, h1, h2, h3, h4.kp hk' (fun e => h3 e.symm), hB', h6, rfl⟩ (fun i i1 i2 => hno i (by omega) i2)
    · have hbt : bitsOf bs (8 * k + j) = false := by rw [hbit, decide_eq_false (by omega)]
      rw [readB_succ_false hbt] at h
      refine next w hb h (fun i i1 i2 => ?_)
      by_cases hi : i = 8 * k + j
      · rw [hi]; exact hbt
      · exact hno i (by omega) i2
theorem rread_loop {w0 : World} {b n : Nat} {p A : Option Addr} {m c : Nat} {bs : List Int} {F : Nat → Prop} {K : Value → World → Prop} (hx : Cs w0 A (nums .u8 bs)) (hm : m = bs.length) (hby : Bytes bs) (hbb : w0.heap.size ≤ b) (hlen : bs.length = (n + 7) / 8) (hn : n ≤ 65536)
    (hE : ∀ w', badB bs n = true → Below w0.heap.size w0 w' → K (.tuple #[.pointer none, .int .i64 4]) w')
    (hK : ∀ w', badB bs n = false → RefV w' b p n (bitsOf bs) F → Below w0.heap.size w0 w' → K (.tuple #[.pointer p, .int .i64 0]) w') :
    ∀ (d k : Nat) (w : World), k + d = m → Below w0.heap.size w0 w → RefV w b p n (readB bs (8 * k)) F → (∀ i, i < 8 * k → n ≤ i → bitsOf bs i = false) → ref03_Read.l0 K (d + 1) n A m c p m k w := by
  intro d
  induction d with
  | zero =>
    intro k w hk hb h hno
    rw [ref03_Read.l0_succ]
    show condP (decide ((k : Int) < _)) _ _
    refine cond_dec (fun h => by omega) (fun _ => ?_)
    have e : 8 * k = 8 * bs.length := by omega
    rw [e, readB_end] at h
    refine hK w (bad_no fun i hi => ?_) h hb
    by_cases hi2 : i < 8 * k
    · exact hno i hi2 hi
    · exact bitsOf_end (by omega)
  | succ d ih =>
    intro k w hk hb h hno
    rw [ref03_Read.l0_succ]
    show condP (decide ((k : Int) < _)) _ _
    refine cond_dec (fun _ => ?_) (fun h => absurd h (by omega))
    have hxk : bs[k]? = some bs[k] := List.getElem?_eq_getElem (by omega)
    have hbk := hby _ (List.getElem_mem (by omega : k < bs.length))
    obtain ⟨x, hxe⟩ : ∃ x : Nat, bs[k] = x := ⟨bs[k].toNat, by omega⟩
    rw [hxe] at hbk hxk
    obtain ⟨a, rfl, c0⟩ := (hx.below hb).at (nums_at hxk)
    unfold ref03_Read.p9 ref03_Read.p10
    rw [Int.toNat_natCast]
    refine ⟨⟨by omega, by omega⟩, a, rfl, _, c0, 9, ?_⟩
    have exu : IntKind.wrap .i64 (x : Int) = ((x / 2 ^ 0 : Nat) : Int) := by rw [wrap64_in (by omega) (by omega)]; simp
    rw [exu]
    refine rread_byte hxk (by omega) hbb hlen hn (by omega) hE (fun w' g1 g2 g3 => ?_) 8 0 w rfl hb h hno
    show ref03_Read.l0 K (d + 1) n (some a) m c p m (IntKind.wrap .i64 ((k : Int) + 1)) w'
    rw [cst k (by omega)]
    exact ih (k + 1) w' (by omega) g1 g2 g3
theorem ref03_Read_c {w : World} {A : Option Addr} {m c : Nat} {bs : List Int} {n : Int} {K : Value → World → Prop} (hx : Cs w A (nums .u8 bs)) (hm : m = bs.length) (hby : Bytes bs)
    (hE : ∀ w', rdErr bs n ≠ 0 → Below w.heap.size w w' → K (.tuple #[.pointer none, .int .i64 (rdErr bs n)]) w')
    (hK : ∀ w' p F, rdErr bs n = 0 → 0 ≤ n → RefV w' w.heap.size p n.toNat (bitsOf bs) F → Below w.heap.size w w' → K (.tuple #[.pointer p, .int .i64 0]) w') : CallsE Pg ref03_Read.N #[.int .i64 n, .slice A m c] w K := by
  refine ref03_Read.ok ?_
  have e2 : (n < 0 ∨ 65536 < n) → K (.tuple #[.pointer none, .int .i64 2]) w := fun h => by
    have e : rdErr bs n = 2 := by unfold rdErr; rw [if_pos h]
    rw [e] at hE
    exact hE w (by decide) (Below.refl _ _)
  refine cond_dec (fun h => e2 (.inl h)) (fun h0 => ?_)
  show condP (decide (65536 < n)) _ _
  refine cond_dec (fun h => e2 (.inr h)) (fun h1 => ?_)
  obtain ⟨k, rfl⟩ := Int.eq_ofNat_of_zero_le (show 0 ≤ n by omega)
  have e1 : IntKind.wrap .i64 (Int.tdiv (IntKind.wrap .i64 ((k : Int) + 7)) 8) = (((k + 7) / 8 : Nat) : Int) := by
    rw [wrap64_in (x := (k : Int) + 7) (by omega) (by omega), Int.tdiv_eq_ediv_of_nonneg (by omega), wrap64_in (by omega) (by omega)]; omega
  unfold ref03_Read.p2
  rw [e1]
  refine ⟨by decide, cond_dec (fun h => ?_) (fun h2 => cond_dec (fun h => ?_) (fun h3 => ?_))⟩
  · have e : rdErr bs (k : Int) = 3 := by unfold rdErr; rw [if_neg (by omega), if_pos (by omega)]
    rw [e] at hE
    exact hE w (by decide) (Below.refl _ _)
  · have e : rdErr bs (k : Int) = 6 := by unfold rdErr; rw [if_neg (by omega), if_neg (by omega), if_pos (by omega)]
    rw [e] at hE
    exact hE w (by decide) (Below.refl _ _)
  · have e : rdErr bs (k : Int) = if badB bs k = true then 4 else 0 := by unfold rdErr; rw [if_neg (by omega), if_neg (by omega), if_neg (by omega), Int.toNat_natCast]
    rw [e] at hE hK
    rw [Int.toNat_natCast] at hK
    refine ref03_New_c fun w1 p F hS b1 => ⟨_, rfl, m + 1, ?_⟩
    have ec : clampN (k : Int) = k := by have := (clampN_eq (k : Int)).1; unfold imax imin at this; (repeat' split at this) <;> omega
    rw [ec] at hS
    refine rread_loop hx hm hby (Nat.le_refl _) (by omega) (by omega) (fun w' hb hbl => ?_) (fun w' hb hs hbl => ?_) m 0 w1 (by omega) b1 (by rw [Nat.mul_zero, readB_0]; exact hS) (fun i hi => by omega)
    · rw [if_pos hb] at hE
      exact hE w' (by decide) hbl
    · rw [if_neg (by rw [hb]; decide)] at hK
      exact hK w' p F rfl (by omega) hs hbl

end Go.Proofs.YtebnmecioifijaaDoor.C
