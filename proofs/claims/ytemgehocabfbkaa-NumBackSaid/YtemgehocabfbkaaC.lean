/-
  Parts of the proofs of this seat: what the functions compute. No condition beyond what each theorem states.
-/
import Derived.Test.YtemgehocabfbkaaF
import Derived.Test.YtemgehocabfbkaaRK
import Derived.Test.YtemgehocabfbkaaB
set_option linter.unusedVariables false
set_option linter.unusedSimpArgs false
set_option maxRecDepth 100000
namespace Go.Proofs.Ytemgehocabfbkaa.C
open Go Go.RowKit Go.Proofs.Ytemgehocabfbkaa Go.Proofs.Ytemgehocabfbkaa.Sh Go.Proofs.Ytemgehocabfbkaa.F Go.Proofs.Ytemgehocabfbkaa.R

/-! ### the laws of layer 1 -/
theorem bytes_wf {xs : List Int} (h : ∀ x ∈ xs, (Lit.int .u8 x).wf = true) : Bytes xs := fun x hx => wf_u8 (h x hx)
theorem law_NumPuts (w : World) (n : Int) (hn : (Lit.int .u64 n).wf = true) (wd : Int) (hwd : (Lit.int .i64 wd).wf = true) (A : Option Addr) (m c : Nat) (bs : List Int) (hx : Cs w A (nums .u8 bs)) (hm : m = bs.length) (hw : ∀ x ∈ bs, (Lit.int .u8 x).wf = true) (hy : m * 1 ≤ 140737488351232) (hc : m ≤ c) :
    CallsE Pg law01_NumPuts.N #[.int .u64 n, .int .i64 wd, .slice A m c] w (fun v w' => v = .bool true ∧ Below w.heap.size w w') := by
  refine law01_NumPuts.ok (law01_alive_c fun w1 b1 => ⟨_, rfl, condP_nt ?_⟩)
  refine num_Put_c (wf_u64 hn) fun A1 c1 w2 o2 b2 => ⟨_, _, _, rfl, ?_⟩
  have b2' := b1.trans (b2.mono b1.size)
  refine ref01_Put_c (wf_u64 hn) fun A2 c2 w3 o3 b3 => ⟨_, _, _, rfl, ?_⟩
  have b3' := b2'.trans (b3.mono b2'.size)
  refine ref01_Same_c (Cs.ofOwn (own_below_kp o2 b3)) (Cs.ofOwn o3) (putB_len _ _).symm (putB_len _ _).symm (putB_bytes _ _) ⟨_, rfl, condP_t ?_⟩
  refine num_Get_c (hx.below b3') hm (bytes_wf hw) ⟨_, rfl, ref01_Get_c (hx.below b3') hm (by omega) (bytes_wf hw) ⟨_, rfl, ?_, b3'⟩⟩
  rw [beq_self_eq_true]
theorem law_NumVars (w : World) (n : Int) (hn : (Lit.int .u64 n).wf = true) : CallsE Pg law01_NumVars.N #[.int .u64 n] w (fun v w' => v = .bool true ∧ Below w.heap.size w w') := by
  have hu := wf_u64 hn
  refine law01_NumVars.ok (law01_alive_c fun w1 b1 => ⟨_, rfl, condP_nt ?_⟩)
  refine ref01_Var_c hu fun A1 c1 w2 o2 b2 => ⟨_, _, _, rfl, ?_⟩
  have b2' := b1.trans (b2.mono b1.size)
  refine num_Var_c hu fun A2 c2 w3 o3 b3 => ⟨_, _, _, rfl, ?_⟩
  have b3' := b2'.trans (b3.mono b2'.size)
  refine ref01_Same_c (Cs.ofOwn o3) (Cs.ofOwn (own_below_kp o2 b3)) rfl rfl (varB_bytes hu) ⟨_, rfl, condP_t ?_⟩
  refine num_Size_c hu ⟨_, rfl, ?_, b3'⟩
  rw [beq_self_eq_true]
theorem getB_putB (x : Nat) : ∀ w, getB (putB (x : Int) w) = ((x % 256 ^ w : Nat) : Int)
  | 0 => by simp [putB, getB, Nat.mod_one]
  | w + 1 => by
    unfold putB
    rw [getB_snoc, getB_putB x w, putB_len, Nat.pow_succ, Nat.mod_mul]
    have e : (x : Int) / ((256 ^ w : Nat) : Int) % 256 = ((x / 256 ^ w % 256 : Nat) : Int) := by
      rw [Int.natCast_emod, Int.natCast_ediv]; rfl
    rw [e, Int.natCast_add, Int.natCast_mul]
theorem getV_put8 {n : Int} (h : U64 n) : getV (putB n 8) = n := by
  obtain ⟨x, rfl⟩ := Int.eq_ofNat_of_zero_le h.1
  unfold getV
  rw [List.take_of_length_le (by rw [putB_len]; exact Nat.le_refl _), getB_putB]
  have := h.2
  rw [Nat.mod_eq_of_lt (by omega)]
theorem varF_mono : ∀ (f : Nat) {a b : Int}, 0 ≤ a → a ≤ b → (varF f a).length ≤ (varF f b).length
  | 0, a, b, _, _ => Nat.le_refl _
  | f + 1, a, b, h0, h => by
    have ih := varF_mono f (a := a / 128) (b := b / 128) (by omega) (by omega)
    have := varF_len f (b / 128)
    unfold varF
    by_cases h1 : a < 128
    · rw [if_pos h1]
      split
      · exact Nat.le_refl _
      · simp
    · rw [if_neg h1, if_neg (by omega)]
      simp only [List.length_cons]
      omega
theorem law_NumOrder (w : World) (a : Int) (ha : (Lit.int .u64 a).wf = true) (b : Int) (hb : (Lit.int .u64 b).wf = true) : CallsE Pg law01_NumOrder.N #[.int .u64 a, .int .u64 b] w (fun v w' => v = .bool true ∧ Below w.heap.size w w') := by
  have ua := wf_u64 ha
  have ub := wf_u64 hb
  refine law01_NumOrder.ok (law01_alive_c fun w1 b1 => ⟨_, rfl, condP_nt ?_⟩)
  show law01_NumOrder.p2 _ a b (imin a b) (imax a b) w1
  have hle : imin a b ≤ imax a b := by unfold imin imax; (repeat' split) <;> omega
  have ul : U64 (imin a b) := by unfold imin; split <;> assumption
  have uh : U64 (imax a b) := by unfold imax; split <;> assumption
  generalize imin a b = x at hle ul
  generalize imax a b = y at hle uh
  have hm := varF_mono 9 ul.1 hle
  have hl := varF_len 9 y
  refine num_Size_c ul ⟨_, rfl, num_Size_c uh ⟨_, rfl, cond_dec (fun _ => ?_) (fun h => absurd (Int.ofNat_le.2 hm) h)⟩⟩
  refine num_Size_c uh ⟨_, rfl, cond_dec (fun _ => ?_) (fun h => absurd (by unfold varB; omega) h)⟩
  refine num_Put_c ua fun A1 c1 w2 o2 b2 => ⟨_, _, _, rfl, ?_⟩
  have b2' := b1.trans (b2.mono b1.size)
  refine num_Get_c (Cs.ofOwn o2) (putB_len _ _).symm (putB_bytes _ _) ⟨_, rfl, cond_eq (fun _ => ?_) (fun h => absurd (getV_put8 ua) h)⟩
  refine num_Put_c ub fun A3 c3 w3 o3 b3 => ⟨_, _, _, rfl, ?_⟩
  have b3' := b2'.trans (b3.mono b2'.size)
  refine num_Get_c (Cs.ofOwn o3) (putB_len _ _).symm (putB_bytes _ _) ⟨_, rfl, cond_eq (fun _ => ?_) (fun h => absurd (getV_put8 ub) h)⟩
  refine num_Put_c ua fun A4 c4 w4 o4 b4 => ⟨_, _, _, rfl, cond_eq (fun _ => ?_) (fun h => absurd (by decide) h)⟩
  have b4' := b3'.trans (b4.mono b3'.size)
  refine num_Var_c ub fun A5 c5 w5 o5 b5 => ⟨_, _, _, rfl, ?_⟩
  refine num_Size_c ub ⟨_, rfl, ?_, b4'.trans (b5.mono b4'.size)⟩
  rw [beq_self_eq_true]
/-- What is read without a fault is what is written of it. -/
theorem scan_var : ∀ (cs : List Int) (i : Nat) (acc v : Int) (u : Nat), scan i acc cs = (v, 0, u) → i ≤ 9 → Bytes cs → 0 ≤ acc → acc < ((128 ^ i : Nat) : Int) →
    ∃ val : Int, v = acc + val * ((128 ^ i : Nat) : Int) ∧ 0 ≤ val ∧ (0 < i → 1 ≤ val) ∧ i < u ∧ cs.take (u - i) = varF (9 - i) val ∧ v < 18446744073709551616
  | [], i, acc, v, u, h, _, _, _, _ => by simp [scan] at h
  | c :: cs, i, acc, v, u, h, hi, hb, h0, h1 => by
    have hc := hb c (by simp)
    unfold scan at h
    by_cases hbad : (i = 9 ∧ 1 < c) ∨ (0 < i ∧ c = 0)
    · rw [if_pos hbad] at h
      simp at h
    rw [if_neg hbad] at h
    obtain ⟨_, e2, e3⟩ := scan_step h0 h1 hc.1 hc.2 (by omega)
    have hpos : (0 : Int) ≤ c % 128 * ((128 ^ i : Nat) : Int) := Int.mul_nonneg (by omega) (Int.natCast_nonneg _)
    by_cases h128 : c < 128
    · rw [if_pos h128] at h
      simp only [Prod.mk.injEq] at h
      obtain ⟨rfl, _, rfl⟩ := h
      have em : c % 128 = c := by omega
      rw [em] at e3
      refine ⟨c, rfl, hc.1, fun hp => by omega, by omega, ?_, e3⟩
      have : i + 1 - i = 1 := by omega
      rw [this]
      cases hf : 9 - i with
      | zero => simp [varF]
      | succ f => simp [varF, h128]
    · rw [if_neg h128] at h
      have hi8 : i ≤ 8 := by omega
      obtain ⟨val, hv, hv0, hv1, hu, ht, hlt⟩ := scan_var cs (i + 1) _ v u h (by omega) (fun x hx => hb x (List.mem_cons_of_mem _ hx)) (by omega) e2
      have hv1' := hv1 (by omega)
      have ep : ((128 ^ (i + 1) : Nat) : Int) = 128 * ((128 ^ i : Nat) : Int) := by rw [Nat.pow_succ]; push_cast; omega
      refine ⟨c % 128 + 128 * val, ?_, by omega, fun _ => by omega, by omega, ?_, hlt⟩
      · rw [hv, ep, Int.add_mul]
        have : val * (128 * ((128 ^ i : Nat) : Int)) = 128 * val * ((128 ^ i : Nat) : Int) := by rw [← Int.mul_assoc, Int.mul_comm val 128]
        rw [this]; omega
      · obtain ⟨k, hk⟩ : ∃ k, u - i = k + 1 := ⟨u - i - 1, by omega⟩
        have hk2 : u - (i + 1) = k := by omega
        rw [hk2] at ht
        obtain ⟨f, hf⟩ : ∃ f, 9 - i = f + 1 := ⟨9 - i - 1, by omega⟩
        have hf2 : 9 - (i + 1) = f := by omega
        rw [hf2] at ht
        rw [hk, hf, List.take_succ_cons, varF, if_neg (by omega), ht]
        congr 1
        · omega
        · congr 1; omega
theorem law_NumOne (w : World) (A : Option Addr) (m c : Nat) (bs : List Int) (hx : Cs w A (nums .u8 bs)) (hm : m = bs.length) (hw : ∀ x ∈ bs, (Lit.int .u8 x).wf = true) (hy : m * 1 ≤ 140737488351232) (hc : m ≤ c) :
    CallsE Pg law01_NumOne.N #[.slice A m c] w (fun v w' => v = .bool true ∧ Below w.heap.size w w') := by
  have hb := bytes_wf hw
  refine law01_NumOne.ok (law01_alive_c fun w1 b1 => ⟨_, rfl, condP_nt ?_⟩)
  refine num_Open_c (hx.below b1) hm (by omega) fun w2 p F hR b2 => ⟨_, rfl, ?_⟩
  have b2' := b1.trans (b2.mono b1.size)
  refine num_Reader_Var_c hR hb (by omega) fun w3 hR3 hk3 => ⟨_, rfl, ?_⟩
  have b3 := b2'.trans (hk3.below b2'.size fun i hi hp => by have := (hR.lt (hR.pt hp)).1; have := b1.size; omega)
  have eV : vVal bs 0 = (scan 0 0 bs).1 := by unfold vVal; rw [if_neg (by decide)]
  have eE : vErr bs 0 = (scan 0 0 bs).2.1 := by unfold vErr; rw [if_neg (by decide)]
  have eL : vLeft bs 0 = bs.drop (scan 0 0 bs).2.2 := by unfold vLeft; rw [if_neg (by decide)]
  refine num_Reader_Err_c hR3 ⟨_, rfl, ?_⟩
  rw [eV]
  rw [eE, eL] at hR3
  rw [eE]
  have hus := scan_used 0 0 bs
  cases hs : scan 0 0 bs with
  | mk v rest =>
    obtain ⟨e, u⟩ := rest
    rw [hs] at hR3 hus
    simp only at hR3 hus ⊢
    refine cond_ne (fun he => ?_) (fun he => ?_)
    · have hv := scan_err 0 0 bs (by rw [hs]; exact he)
      rw [hs] at hv
      simp only at hv
      refine cond_eq (fun _ => ?_) (fun h => absurd hv h)
      refine num_Reader_Left_c hR3 ⟨_, rfl, ?_, b3⟩
      unfold leftV
      rw [if_pos he]; rfl
    · subst he
      obtain ⟨val, hv, hv0, _, hu, ht, hlt⟩ := scan_var bs 0 0 v u hs (by decide) hb (by decide) (by decide)
      have hval : v = val := by rw [hv]; simp
      subst hval
      have hul : u ≤ m := by omega
      refine num_Reader_Left_c hR3 ⟨_, rfl, ?_⟩
      have el : leftV (bs.drop u) 0 = ((m - u : Nat) : Int) := by unfold leftV; rw [if_neg (by decide), List.length_drop, hm]
      rw [el]
      refine cond_dec (fun _ => ?_) (fun h => absurd (by omega) h)
      refine cond_dec (fun _ => ?_) (fun h => absurd (by omega) h)
      have ew : IntKind.wrap .i64 ((m : Int) - ((m - u : Nat) : Int)) = u := by rw [wrap64_in (by omega) (by omega)]; omega
      rw [ew]
      refine ⟨⟨by omega, by omega⟩, num_Var_c ⟨hv0, by omega⟩ fun A4 c4 w4 o4 b4 => ⟨_, _, _, rfl, ?_⟩⟩
      have b4' := b3.trans (b4.mono b3.size)
      simp only [Nat.sub_zero] at ht
      have hA : Cs w4 (slA A 0 c 1) (nums .u8 (varB v)) := by
        have := slA_cs (k := 0) (c := c) (hx.below b4') (by omega) (by rw [nums_len]; omega)
        rw [List.drop_zero] at this
        have h2 := this.take u
        rw [nums_take, ht] at h2
        exact h2
      have hlen : ((u : Int)).toNat - 0 = (varB v).length := by
        have := congrArg List.length ht
        rw [List.length_take] at this
        unfold varB
        omega
      refine ref01_Same_c (Cs.ofOwn o4) hA rfl hlen (varB_bytes ⟨hv0, by omega⟩) ⟨_, rfl, rfl, b4'⟩

end Go.Proofs.Ytemgehocabfbkaa.C
