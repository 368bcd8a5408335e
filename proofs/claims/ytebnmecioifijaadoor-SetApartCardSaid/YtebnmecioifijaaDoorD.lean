/-
  Parts of the proofs of this seat: what the functions compute. No condition beyond what each theorem states.
-/
import Derived.Test.YtebnmecioifijaaDoorF
import Derived.Test.YtebnmecioifijaaDoorRK
import Derived.Test.YtebnmecioifijaaDoorA
import Derived.Test.YtebnmecioifijaaDoorB
import Derived.Test.YtebnmecioifijaaDoorC
set_option linter.unusedVariables false
set_option linter.unusedSimpArgs false
set_option maxRecDepth 100000
namespace Go.Proofs.YtebnmecioifijaaDoor.C
open Go Go.RowKit Go.Proofs.YtebnmecioifijaaDoor Go.Proofs.YtebnmecioifijaaDoor.Sh Go.Proofs.YtebnmecioifijaaDoor.F Go.Proofs.YtebnmecioifijaaDoor.R

/-! ### lists and bytes of sets -/
theorem mem_next {S : Nat → Bool} : ∀ (k f : Nat), (nxt S true f k = -1 ∧ memL S f k = []) ∨ ∃ j, f ≤ j ∧ j < f + k ∧ nxt S true f k = (j : Int) ∧ memL S f k = (j : Int) :: memL S (j + 1) (f + k - (j + 1))
  | 0, f => .inl ⟨rfl, rfl⟩
  | k + 1, f => by
    rw [nxt, memL]
    cases hs : S f with
    | true =>
      refine .inr ⟨f, Nat.le_refl _, by omega, rfl, ?_⟩
      have : f + (k + 1) - (f + 1) = k := by omega
      rw [this]; rfl
    | false =>
      have e : f + 1 + k = f + (k + 1) := by omega
      rcases mem_next (S := S) k (f + 1) with ⟨h1, h2⟩ | ⟨j, h1, h2, h3, h4⟩
      · exact .inl ⟨h1, h2⟩
      · rw [e] at h2 h4
        exact .inr ⟨j, by omega, h2, h3, h4⟩
theorem memL_le {S : Nat → Bool} {b n : Nat} : (memL S b n).length ≤ n := by rw [memL_len]; exact cnt_le S n b
theorem list_loop {w0 : World} {b : Nat} {p : Option Addr} {n : Nat} {S : Nat → Bool} {F : Nat → Prop} {K : Value → World → Prop} (h : SetV w0 b p n S F) (hT : Tab w0)
    (hK : ∀ A m c w', m = (memL S 0 n).length → w'.ownsRow w0.heap.size Ty.int 1 (.slice A m c) m (nums .i64 (memL S 0 n)) → Below w0.heap.size w0 w' → K (.slice A m c) w') :
    ∀ (d f : Nat) (w : World) (acc : List Int) (A : Option Addr) (c : Nat), n ≤ f + d → f ≤ n → Below w0.heap.size w0 w → w.ownsRow w0.heap.size Ty.int 1 (.slice A acc.length c) acc.length (nums .i64 acc) → acc ++ memL S f (n - f) = memL S 0 n →
      set_Set_List.l0 K (d + 1) p A acc.length c (nxt S true f (n - f)) w := by
  have hsz := h.size
  have hll := @memL_le S 0 n
  intro d
  induction d with
  | zero =>
    intro f w acc A c hf hf2 hb ho he
    rw [set_Set_List.l0_succ, nxt_end (by omega)]
    have e0 : n - f = 0 := by omega
    rw [e0] at he
    simp only [memL, List.append_nil] at he
    refine cond_dec (fun h => by omega) (fun _ => hK A _ c w (by rw [he]) ?_ hb)
    rw [← he]; exact ho
  | succ d ih =>
    intro f w acc A c hf hf2 hb ho he
    rw [set_Set_List.l0_succ]
    rcases mem_next (S := S) (n - f) f with ⟨h1, h2⟩ | ⟨j, h1, h2, h3, h4⟩
    · rw [h1]
      rw [h2, List.append_nil] at he
      refine cond_dec (fun h => by omega) (fun _ => hK A _ c w (by rw [he]) ?_ hb)
      rw [← he]; exact ho
    · rw [h3]
      have ej : f + (n - f) - (j + 1) = n - (j + 1) := by omega
      rw [h4, ej] at he
      refine cond_dec (fun _ => wlet_intro fun w1 hw1 => ?_) (fun h => by omega)
      have hal : Below w.heap.size w w1 := by rw [hw1]; exact (Below.refl _ _).alloc (Nat.le_refl _) _
      have hz : Blk w1 w.heap.size Ty.int (nums .i64 [(j : Int)]) := by rw [hw1]; exact Blk.new w Ty.int _
      clear hw1
      have b1 := hb.trans (hal.mono hb.size)
      have ho1 := own_below_kp ho hal
      have hla : acc.length ≤ 65536 := by have := congrArg List.length he; rw [List.length_append] at this; omega
      refine app_i64 (m := 1) ho1 rfl (Cs.of_blk0 hz) (by omega) b1.size fun A' c' w2 ho2 hm2 => ⟨_, _, _, rfl, ?_⟩
      have b2 := b1.trans (hm2.kp.below b1.size fun i hi e => by have := (own_lt ho1 e).1; omega)
      rw [wrap64_in (x := (j : Int) + 1) (by omega) (by omega)]
      refine set_Set_First_c (h.below b2) (hT.below b2 hT.lt) ⟨by omega, by omega⟩ ⟨_, rfl, ?_⟩
      have en : nextV S n true ((j : Int) + 1) = nxt S true (j + 1) (n - (j + 1)) := by
        unfold nextV
        have : ((j : Int) + 1).toNat = j + 1 := by omega
        rw [this]
      rw [en]
      have el : acc.length + 1 = (acc ++ [(j : Int)]).length := by simp
      rw [el] at ho2 ⊢
      exact ih (j + 1) w2 _ A' c' (by omega) (by omega) b2 ho2 (by rw [List.append_assoc]; exact he)
theorem set_Set_List_c {w : World} {b : Nat} {p : Option Addr} {n : Nat} {S : Nat → Bool} {F : Nat → Prop} {K : Value → World → Prop} (h : SetV w b p n S F) (hT : Tab w)
    (hK : ∀ A m c w', m = (memL S 0 n).length → w'.ownsRow w.heap.size Ty.int 1 (.slice A m c) m (nums .i64 (memL S 0 n)) → Below w.heap.size w w' → K (.slice A m c) w') : CallsE Pg set_Set_List.N #[.pointer p] w K :=
  set_Set_List.ok (set_Set_First_c h hT ⟨by decide, by decide⟩ ⟨_, rfl, n + 1, list_loop h hT hK n 0 w [] none 0 (by omega) (by omega) (Below.refl _ _) (World.ownsRow_nil _ _ _ _) rfl⟩)
def bytL (S : Nat → Bool) (n : Nat) : List Int := (List.range ((n + 7) / 8)).map fun k => (valF S (8 * k) 8 : Int)
def bytP (S : Nat → Bool) (N k : Nat) : List Int := (List.range N).map fun i => if i < k then (valF S (8 * i) 8 : Int) else 0
theorem bytP_at {S : Nat → Bool} {N k i : Nat} (h : i < N) : (bytP S N k)[i]? = some (if i < k then (valF S (8 * i) 8 : Int) else 0) := by simp [bytP, h]
theorem bytP_len {S : Nat → Bool} {N k : Nat} : (bytP S N k).length = N := by simp [bytP]
theorem bytL_len {S : Nat → Bool} {n : Nat} : (bytL S n).length = (n + 7) / 8 := by simp [bytL]
theorem bytP_0 {S : Nat → Bool} {N : Nat} : bytP S N 0 = List.replicate N 0 := by
  apply List.ext_getElem?
  intro i
  by_cases h : i < N
  · rw [bytP_at h, List.getElem?_replicate, if_pos h, if_neg (by omega)]
  · rw [List.getElem?_eq_none (by rw [bytP_len]; omega), List.getElem?_eq_none (by simp; omega)]
theorem bytP_N {S : Nat → Bool} {n : Nat} : bytP S ((n + 7) / 8) ((n + 7) / 8) = bytL S n := by
  apply List.ext_getElem?
  intro i
  by_cases h : i < (n + 7) / 8
  · rw [bytP_at h, if_pos h]; simp [bytL, h]
  · rw [List.getElem?_eq_none (by rw [bytP_len]; omega), List.getElem?_eq_none (by rw [bytL_len]; omega)]
theorem bytP_set {S : Nat → Bool} {N k : Nat} (h : k < N) : (bytP S N k).set k (valF S (8 * k) 8 : Int) = bytP S N (k + 1) := by
  apply List.ext_getElem?
  intro i
  rw [List.getElem?_set]
  by_cases hi : k = i
  · subst hi
    rw [if_pos rfl, bytP_len, if_pos h, bytP_at h, if_pos (by omega)]
  · rw [if_neg hi]
    by_cases hN : i < N
    · rw [bytP_at hN, bytP_at hN]
      by_cases h2 : i < k
      · rw [if_pos h2, if_pos (by omega)]
      · rw [if_neg h2, if_neg (by omega)]
    · rw [List.getElem?_eq_none (by rw [bytP_len]; omega), List.getElem?_eq_none (by rw [bytP_len]; omega)]
theorem valF_byte (S : Nat → Bool) (b : Nat) : valF S b 8 < 256 := valF_lt S 8 b
theorem bytL_bytes {S : Nat → Bool} {n : Nat} : Bytes (bytL S n) := fun x hx => by
  simp only [bytL, List.mem_map] at hx
  obtain ⟨k, _, rfl⟩ := hx
  have := valF_byte S (8 * k)
  exact ⟨by omega, by omega⟩
theorem bytes_loop {w0 : World} {b : Nat} {p : Option Addr} {n g : Nat} {S : Nat → Bool} {F : Nat → Prop} {K : Value → World → Prop} (h : SetV w0 b p n S F) (hg : w0.heap.size ≤ g)
    (hK : ∀ w', w'.ownsRow w0.heap.size Ty.uint8 1 (.slice (some ⟨g, 0, none⟩) ((n + 7) / 8) ((n + 7) / 8)) ((n + 7) / 8) (nums .u8 (bytL S n)) → Below w0.heap.size w0 w' → K (.slice (some ⟨g, 0, none⟩) ((n + 7) / 8) ((n + 7) / 8)) w') :
    ∀ (d k : Nat) (w : World), k + d = (n + 7) / 8 → Below w0.heap.size w0 w → Blk w g Ty.uint8 (nums .u8 (bytP S ((n + 7) / 8) k)) → set_Set_Bytes.l0 K (d + 1) p (some ⟨g, 0, none⟩) ((n + 7) / 8) ((n + 7) / 8) ((n + 7) / 8 : Nat) k w := by
  have hsz := h.size
  intro d
  induction d with
  | zero =>
    intro k w hk hb hB
    rw [set_Set_Bytes.l0_succ]
    refine cond_dec (fun h => by omega) (fun _ => ?_)
    obtain rfl : k = (n + 7) / 8 := by omega
    rw [bytP_N] at hB
    refine hK w ?_ hb
    have := own_of_blk (size := 1) (n := (n + 7) / 8) hB hg (c := (n + 7) / 8) (by rw [nums_len, bytL_len]; omega) (Nat.le_refl _) (by unfold maxLen; omega)
    rw [List.take_of_length_le (by rw [nums_len, bytL_len]; omega)] at this
    exact this
  | succ d ih =>
    intro k w hk hb hB
    rw [set_Set_Bytes.l0_succ]
    refine cond_dec (fun _ => ?_) (fun h => absurd h (by omega))
    have h' := h.below hb
    obtain ⟨t, g', rfl, h1, h2, h3, h4, h5, h6, hF⟩ := h'
    have ed := tdivN k 8 (by omega)
    have em := tmodN k 8
    rw [show ((8 : Nat) : Int) = 8 from rfl] at ed em
    have e8 : IntKind.wrap .i64 (8 * ((k % 8 : Nat) : Int)) = ((8 * (k % 8) : Nat) : Int) := by rw [wrap64_in (by omega) (by omega)]; push_cast; rfl
    rw [ed, em, e8, Int.toNat_natCast]
    obtain ⟨a, ea, hc⟩ := (Cs.of_blk0 h5).at (nums_at (ws_at (S := S) (show k / 8 < (n + 63) / 64 by omega)))
    refine ⟨_, rfl, _, _, _, h4.cell' (j := 1) rfl, by decide, ⟨by omega, by omega⟩, a, ea, _, hc, by decide, by omega, ⟨by omega, by omega⟩, _, rfl, ?_⟩
    have ev : IntKind.wrap .u8 (ishr .u64 ((wd S (k / 8) : Nat) : Int) ((8 * (k % 8) : Nat) : Int)) = ((valF S (8 * k) 8 : Nat) : Int) := by
      rw [shrN _ _ (by omega), wrapu8_eq]
      unfold wd
      rw [valF_div S _ _ _ (by omega)]
      have e1 : 64 * (k / 8) + 8 * (k % 8) = 8 * k := by omega
      rw [e1]
      have := valF_mod S (8 * k) (64 - 8 * (k % 8)) 8 (by omega)
      have e2 : (2 : Nat) ^ 8 = 256 := by decide
      rw [e2] at this
      omega
    rw [ev]
    refine blk_set1 (k := k) hB (by rw [nums_len, bytP_len]; omega) fun w' hB' hk' _ => ?_
    rw [nums_set, bytP_set (by omega)] at hB'
    rw [cst k (by omega)]
    exact ih (k + 1) w' (by omega) (hb.trans (hk'.below hb.size fun i hi e => by omega)) hB'
theorem set_Set_Bytes_c {w : World} {b : Nat} {p : Option Addr} {n : Nat} {S : Nat → Bool} {F : Nat → Prop} {K : Value → World → Prop} (h : SetV w b p n S F)
    (hK : ∀ A c w', w'.ownsRow w.heap.size Ty.uint8 1 (.slice A ((n + 7) / 8) c) ((n + 7) / 8) (nums .u8 (bytL S n)) → Below w.heap.size w w' → K (.slice A ((n + 7) / 8) c) w') : CallsE Pg set_Set_Bytes.N #[.pointer p] w K := by
  have hsz := h.size
  refine set_Set_Bytes.ok (set_Set_Len_c h ⟨_, rfl, ?_⟩)
  have e1 : IntKind.wrap .i64 (Int.tdiv (IntKind.wrap .i64 ((n : Int) + 7)) 8) = (((n + 7) / 8 : Nat) : Int) := by
    rw [wrap64_in (x := (n : Int) + 7) (by omega) (by omega), Int.tdiv_eq_ediv_of_nonneg (by omega), wrap64_in (by omega) (by omega)]; omega
  rw [e1, Int.toNat_natCast]
  refine ⟨by decide, ⟨by omega, by omega, by omega, by omega⟩, ?_⟩
  rw [madeN]
  refine wlet_intro fun w1 h1 => ?_
  have hal : Below w.heap.size w w1 := by rw [h1]; exact (Below.refl _ _).alloc (Nat.le_refl _) _
  have hg : Blk w1 w.heap.size Ty.uint8 (nums .u8 (List.replicate ((n + 7) / 8) 0)) := by rw [h1]; exact Blk.new w _ _
  clear h1
  rw [← bytP_0 (S := S)] at hg
  exact ⟨(n + 7) / 8 + 1, bytes_loop h (Nat.le_refl _) (fun w' ho hb => hK _ _ w' ho hb) _ 0 w1 (by omega) hal hg⟩
theorem words_under : Pg.underlying Ty.sl_uint64 = some (.slice Ty.uint64) := by kernel_rfl
theorem set_Set_Copy_c {w : World} {b : Nat} {p : Option Addr} {n : Nat} {S : Nat → Bool} {F : Nat → Prop} {K : Value → World → Prop} (h : SetV w b p n S F)
    (hK : ∀ w' q G, SetV w' w.heap.size q n S G → Below w.heap.size w w' → K (.pointer q) w') : CallsE Pg set_Set_Copy.N #[.pointer p] w K := by
  have h0 := h
  obtain ⟨t, g, rfl, h1, h2, h3, h4, h5, h6, hF⟩ := h
  refine set_Set_Copy.ok (condP_f ⟨_, rfl, _, h4.cell' (j := 0) rfl, set_New_c fun w1 q G hn b1 => ⟨_, rfl, ?_⟩⟩)
  have ec : clampN (n : Int) = n := by have := (clampN_eq (n : Int)).1; unfold imax imin at this; (repeat' split at this) <;> omega
  rw [ec] at hn
  obtain ⟨t', g', rfl, n1, n2, n3, n4, n5, n6, rfl⟩ := hn
  have h4' := h4.kp (Kp.of_below b1) id
  have h5' := h5.kp (Kp.of_below b1) id
  refine ⟨fun H => H = w1.heap, rfl, _, rfl, _, rfl, _, _, _, fun w' e => held (n4.cell' (j := 1) rfl) w' e, _, _, _, fun w' e => held (h4'.cell' (j := 1) rfl) w' e, ?_⟩
  have hs1 : (Pg.info? Ty.uint64).map (·.size) = some 1 := by kernel_rfl
  refine copy_blk words_under hs1 n5 (cs := nums .u64 (ws S ((n + 63) / 64))) (by rw [nums_len, ws_len]; exact (Nat.min_self _).symm) (Cs.of_blk0 h5') (by rw [nums_len, nums_len, ws_len, ws_len]; omega) (nums_one _ _) fun w2 hB2 hk2 => ⟨_, rfl, ?_⟩
  rw [List.take_zero, List.nil_append, List.drop_of_length_le (by rw [nums_len, nums_len, ws_len, ws_len]; omega), List.append_nil] at hB2
  exact hK w2 _ _ ⟨t', g', rfl, n1, n2, n3, n4.kp hk2 (fun e => n3 e.symm), hB2, n6, rfl⟩ (b1.trans (hk2.below b1.size fun i hi e => by omega))

end Go.Proofs.YtebnmecioifijaaDoor.C
