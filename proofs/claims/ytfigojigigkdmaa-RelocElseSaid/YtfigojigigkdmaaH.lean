/-
  Parts of the proofs of this seat: what the functions compute. No condition beyond what each theorem states.
-/
import Derived.Test.YtfigojigigkdmaaF
import Derived.Test.YtfigojigigkdmaaRK
import Derived.Test.YtfigojigigkdmaaB
import Derived.Test.YtfigojigigkdmaaC
import Derived.Test.YtfigojigigkdmaaD
import Derived.Test.YtfigojigigkdmaaE
import Derived.Test.YtfigojigigkdmaaG
set_option linter.unusedVariables false
set_option linter.unusedSimpArgs false
set_option maxRecDepth 100000
namespace Go.Proofs.Ytfigojigigkdmaa.C
open Go Go.RowKit Go.Proofs.Ytfigojigigkdmaa Go.Proofs.Ytfigojigigkdmaa.Sh Go.Proofs.Ytfigojigigkdmaa.F Go.Proofs.Ytfigojigigkdmaa.R

/-! ### RelocWrites, RelocReads, RelocOne -/
theorem tabB_bytes {l : List Int} (hr : rightV l 65535 = true) : Bytes (tabB l) := by
  unfold rightV at hr
  by_cases hl : 8192 < l.length
  · rw [if_pos hl] at hr; cases hr
  rw [if_neg hl] at hr
  intro y hy
  rcases List.mem_append.1 hy with hy | hy
  · exact varB_bytes ⟨by omega, by omega⟩ y hy
  · exact encT_bytes l 0 (by decide) hr y hy
theorem encT_len : ∀ (l : List Int) (next : Int), (encT next l).length ≤ 10 * l.length
  | [], _ => Nat.le_refl _
  | x :: l, next => by
    have := varF_len 9 ((x - next) / 8)
    have ih := encT_len l (x + 8)
    rw [encT, List.length_append, List.length_cons]
    unfold varB; omega
theorem tabB_len {l : List Int} : (tabB l).length ≤ 10 * l.length + 10 := by
  have := varF_len 9 (l.length : Int)
  have := encT_len l 0
  unfold tabB varB
  rw [List.length_append]; omega
theorem right_i64 : ∀ (l : List Int) (next : Int), 0 ≤ next → rightFrom 65535 next l = true → ∀ x ∈ l, I64 x
  | [], _, _, _ => fun x hx => by cases hx
  | y :: l, next, h0, h => by
    obtain ⟨h1, h2, h3, h4⟩ := right_cons (nb := 65535) h0 h
    intro x hx
    rcases List.mem_cons.1 hx with rfl | hx
    · exact ⟨by omega, by omega⟩
    · exact right_i64 l (y + 8) (by omega) h4 x hx
/-- A reader of the document, newly made over an own row. -/
theorem ref_new {w w' : World} {A : Option Addr} {n c b : Nat} {bs : List Int} (ho : w.ownsRow b Ty.uint8 1 (.slice A n c) n (nums .u8 bs)) (hb : b ≤ w.heap.size) (hn : n = bs.length) (h : w' = w.alloc (.cells #[.slice A n c, .int .i64 0] Ty.ref01_Reader)) :
    RdV Ty.ref01_Reader w' b (some ⟨w.heap.size, 0, none⟩) bs 0 (fun i => i = w.heap.size ∨ A.map (·.block) = some i) ∧ Below w.heap.size w w' := by
  have hal : Below w.heap.size w w' := by rw [h]; exact (Below.refl _ _).alloc (Nat.le_refl _) _
  have hB : Blk w' w.heap.size Ty.ref01_Reader [.slice A n c, .int .i64 0] := by rw [h]; exact Blk.new w Ty.ref01_Reader _
  clear h
  have ho5 := own_below_kp ho hal
  have hmc : n ≤ c := by obtain ⟨_, _, e, h, _⟩ := own_form ho; cases e; exact h
  refine ⟨⟨w.heap.size, A, c, rfl, hb, by rw [← hn]; exact hB, by omega, Cs.ofOwn ho5, fun g hg => ?_, rfl⟩, hal⟩
  cases A with
  | none => cases hg
  | some a =>
    have := own_lt ho (g := g) hg
    have := hal.size
    exact ⟨by omega, by omega, by omega⟩
theorem law_RelocReads (w : World) (A : Option Addr) (nb cb : Nat) (bs : List Int) (hx : Cs w A (nums .u8 bs)) (hnb : nb = bs.length) (hw : ∀ x ∈ bs, (Lit.int .u8 x).wf = true) (hyl : nb * 1 ≤ 140737488351232) (hcb : nb ≤ cb) :
    CallsE Pg law16_RelocReads.N #[.slice A nb cb] w (fun v w' => v = .bool true ∧ Below w.heap.size w w') := by
  have hb := bytes_wf hw
  refine law16_RelocReads.ok (law16_alive_c fun w1 b1 => ⟨_, rfl, condP_nt ?_⟩)
  refine num_Open_c (hx.below b1) hnb (by omega) fun w2 p F hR b2 => ⟨_, rfl, ?_⟩
  have b2' := b1.trans (b2.mono b1.size)
  refine ref01_Copy_c (hx.below b2') hnb (by omega) fun A3 c3 w3 o3 b3 => ⟨_, _, _, rfl, ?_⟩
  have b3' := b2'.trans (b3.mono b2'.size)
  refine wlet_intro fun w4 h4 => ?_
  obtain ⟨hS, b4⟩ := ref_new o3 b3.size hnb h4
  clear h4
  have b4' := b3'.trans (b4.mono b3'.size)
  have hR4 := (hR.below b3).below b4
  refine reloc_Read_c hR4 hb (by omega) fun A5 m5 c5 w5 hm5 o5 hR5 k5 => ⟨_, _, _, rfl, ?_⟩
  have b5' := b4'.trans (hR4.under b1.size b4'.size k5)
  have hS5 := hS.kp k5 (fun i hi hp => by have := (hR.lt (hR.pt hp)).2; have := (hS.lt hi).1; omega)
  refine ref16_Read_c hS5 hb (by omega) fun A6 m6 c6 w6 hm6 o6 hS6 k6 => ⟨_, _, _, rfl, ?_⟩
  have b6' := b5'.trans (hS5.under (by have := b2'.size; omega) b5'.size k6)
  have hR6 := hR5.kp k6 (fun i hi hp => by have := (hR.lt hi).2; have := (hS.lt (hS.pt hp)).1; omega)
  have o5' := own_kp o5 k6 (fun g hg hp => own_app o5 (fun i hi => (hS.lt hi).2) g (hS.pt hp) hg)
  have hlen : (readV bs).length ≤ 8192 := by
    have hu := uVal_range (err := 0) (most := 8192) hb (by decide)
    have := (readF_len (uVal bs 0 8192).toNat 0 (uLeft bs 0 8192) (uErr bs 0 8192)).1
    unfold readV readT
    split
    · exact Nat.zero_le _
    · omega
  refine ⟨fun H => H = w6.heap, rfl, ?_⟩
  refine ref01_Ints_c (Cs.ofOwn o5') (Cs.ofOwn o6) hm5 hm6 (by omega) ⟨_, rfl, rfl, condP_t ?_⟩
  obtain ⟨a, ea, hc⟩ := hS6.err_cell
  refine ⟨a, ea, _, fun w' e => held hc w' e, ?_⟩
  refine num_Reader_Err_c hR6 ⟨_, rfl, rfl, cond_eq (fun _ => ?_) (fun h => absurd rfl h)⟩
  refine num_Reader_Left_c hR6 ⟨_, rfl, rfl, ?_⟩
  refine ref01_Reader_Rest_c hS6 ⟨_, rfl, rfl, ?_⟩
  exact ⟨by simp, b6'⟩
theorem law_RelocOne (w : World) (A : Option Addr) (nb cb : Nat) (bs : List Int) (hx : Cs w A (nums .u8 bs)) (hnb : nb = bs.length) (hw : ∀ x ∈ bs, (Lit.int .u8 x).wf = true) (hyl : nb * 1 ≤ 140737488351232) (hcb : nb ≤ cb) :
    CallsE Pg law16_RelocOne.N #[.slice A nb cb] w (fun v w' => v = .bool true ∧ Below w.heap.size w w') := by
  have hb := bytes_wf hw
  refine law16_RelocOne.ok (law16_alive_c fun w1 b1 => ⟨_, rfl, condP_nt ?_⟩)
  refine num_Open_c (hx.below b1) hnb (by omega) fun w2 p F hR b2 => ⟨_, rfl, ?_⟩
  have b2' := b1.trans (b2.mono b1.size)
  refine reloc_Read_c hR hb (by omega) fun A3 m3 c3 w3 hm3 o3 hR3 k3 => ⟨_, _, _, rfl, ?_⟩
  have b3' := b2'.trans (hR.under b1.size b2'.size k3)
  refine num_Reader_Err_c hR3 ⟨_, rfl, ?_⟩
  refine cond_ne (fun he => ?_) (fun he => ?_)
  · refine ⟨?_, b3'⟩
    unfold readV at hm3
    rw [if_pos he] at hm3
    rw [hm3]; rfl
  · unfold readV at hm3 o3
    rw [if_neg (fun h => h he)] at hm3 o3
    cases hr : readT bs with
    | mk out r =>
      obtain ⟨e, l'⟩ := r
      rw [hr] at he hm3 o3 hR3
      simp only at he hm3 o3 hR3
      subst he
      obtain ⟨h1, h2⟩ := readT_one hb hr
      have hl : out.length ≤ 8192 := by
        unfold rightV at h1
        by_cases h : 8192 < out.length
        · rw [if_pos h] at h1; cases h1
        · omega
      have hbl : bs.length = (tabB out).length + l'.length := by rw [h2, List.length_append]
      have hi : ∀ x ∈ out, I64 x := by
        unfold rightV at h1
        rw [if_neg (by omega)] at h1
        exact right_i64 out 0 (by decide) h1
      refine reloc_Bytes_c (Cs.ofOwn o3) hm3 (by omega) hi (fun h => by rw [h1] at h; cases h) fun _ A4 c4 w4 o4 b4 => ⟨_, _, _, _, rfl, ?_⟩
      have b4' := b3'.trans (b4.mono b3'.size)
      refine cond_eq (fun _ => ?_) (fun h => absurd rfl h)
      have hR4 := hR3.below b4
      refine num_Reader_Left_c hR4 ⟨_, rfl, ?_⟩
      have el : leftV l' 0 = (l'.length : Int) := by unfold leftV; rw [if_neg (fun h => h rfl)]
      rw [el, wrap64_in (by omega) (by omega)]
      refine ⟨⟨by omega, by omega⟩, ?_⟩
      have en : ((nb : Int) - (l'.length : Int)).toNat - 0 = (tabB out).length := by omega
      rw [en]
      have hA : Cs w4 (slA A 0 cb 1) (nums .u8 (tabB out)) := by
        have := slA_cs (k := 0) (c := cb) (hx.below b4') (by omega) (by rw [nums_len]; omega)
        rw [List.drop_zero] at this
        have h3 := this.take (tabB out).length
        rw [nums_take, h2, List.take_left] at h3
        exact h3
      refine ref01_Same_c (Cs.ofOwn o4) hA rfl rfl (tabB_bytes h1) ⟨_, rfl, rfl, b4'⟩
theorem law_RelocWrites (w : World) (A : Option Addr) (m cm : Nat) (l : List Int) (hy : Cs w A (nums .i64 l)) (hm : m = l.length) (hwl : ∀ x ∈ l, (Lit.int .i64 x).wf = true) (hml : m * 8 ≤ 140737488351232) (hcm : m ≤ cm) (n : Int) (hn : (Lit.int .i64 n).wf = true)
    (B : Option Addr) (nb cb : Nat) (bs : List Int) (hx : Cs w B (nums .u8 bs)) (hnb : nb = bs.length) (hw : ∀ x ∈ bs, (Lit.int .u8 x).wf = true) (hyl : nb * 1 ≤ 140737488351232) (hcb : nb ≤ cb) :
    CallsE Pg law16_RelocWrites.N #[.slice A m cm, .int .i64 n, .slice B nb cb] w (fun v w' => v = .bool true ∧ Below w.heap.size w w') := by
  have hb := bytes_wf hw
  have hi := ints_wf hwl
  have hn := wf_i64 hn
  refine law16_RelocWrites.ok (law16_alive_c fun w1 b1 => ⟨_, rfl, condP_nt ?_⟩)
  unfold law16_RelocWrites.p1
  refine cond_dec (fun _ => ⟨rfl, b1⟩) (fun h9 => cond_dec (fun _ => ⟨rfl, b1⟩) (fun h1 => ?_))
  refine copy_i64 (hy.below b1) hm (by omega) fun A2 c2 w2 o2 b2 => ⟨_, _, _, rfl, ?_⟩
  have b2' := b1.trans (b2.mono b1.size)
  have tail : ∀ (w3 w4 : World) (x8A x10A : Option Addr) (x8n x8c x10n x10c : Nat) (e : Int) (ts : List Int), Below w2.heap.size w2 w4 → Cs w4 x8A (nums .u8 ts) → Cs w4 x10A (nums .u8 ts) → x8n = ts.length → x10n = ts.length → Bytes ts → (e = 0 → rightV l 65535 = true ∧ ts = tabB l) →
      law16_RelocWrites.p6 (fun v w' => v = .bool true ∧ Below w.heap.size w w') A m cm n B nb cb A2 m c2 x8A x8n x8c e x10A x10n x10c e w4 := fun w3 w4 x8A x10A x8n x8c x10n x10c e ts b4 t1 t2 e1 e2 hbt hok => by
    have b4' := b2'.trans (b4.mono b2'.size)
    have y2 := (Cs.ofOwn o2).below b4
    refine cond_ne (fun h => absurd rfl h) (fun _ => ?_)
    refine ref01_Same_c t1 t2 e1 e2 hbt ⟨_, rfl, condP_f ?_⟩
    refine reloc_Right_c y2 hm ⟨hn.1, hn.2⟩ hi ⟨_, rfl, ?_⟩
    refine ref16_Right_c (hy.below b4') hm ⟨hn.1, hn.2⟩ hi ⟨_, rfl, ?_⟩
    rw [beq_self_eq_true]
    refine condP_f (ref01_Ints_c y2 (hy.below b4') hm hm (by omega) ⟨_, rfl, condP_f ?_⟩)
    refine cond_ne (fun _ => ⟨rfl, b4'⟩) (fun he => ?_)
    obtain ⟨hr, rfl⟩ := hok he
    refine ref01_Copy_c t1 e1 (by have := @tabB_len l; omega) fun A5 c5 w5 o5 b5 => ⟨_, _, _, rfl, ?_⟩
    have b5' := b4'.trans (b5.mono b4'.size)
    subst e1
    refine app_bytes o5 hnb (hx.below b5') (by have := @tabB_len l; omega) b5.size fun A6 c6 w6 o6 m6 => ⟨_, _, _, rfl, ?_⟩
    have b6 : Below w4.heap.size w4 w6 := b5.trans (m6.kp.below b5.size fun i hi' e => by have := (own_lt o5 e).1; omega)
    have b6' := b4'.trans (b6.mono b4'.size)
    refine num_Open_c (Cs.ofOwn o6) (by rw [List.length_append, hnb]) (by have := @tabB_len l; omega) fun w7 p F hR b7 => ⟨_, rfl, ?_⟩
    have b7' := b6'.trans (b7.mono b6'.size)
    have hbb : Bytes (tabB l ++ bs) := fun x hx' => by
      rcases List.mem_append.1 hx' with h | h
      · exact hbt x h
      · exact hb x h
    have hT : readT (tabB l ++ bs) = (l, 0, bs) := readT_back hr
    have hV : readV (tabB l ++ bs) = l := by unfold readV; rw [hT]; rfl
    refine reloc_Read_c hR hbb (by rw [List.length_append]; have := @tabB_len l; omega) fun A8 m8 c8 w8 hm8 o8 hR8 k8 => ⟨_, _, _, rfl, ?_⟩
    have b8' := b7'.trans (hR.under b6'.size b7'.size k8)
    rw [hT] at hR8
    rw [hV] at hm8 o8
    refine num_Reader_Err_c hR8 ⟨_, rfl, cond_eq (fun _ => ?_) (fun h => absurd rfl h)⟩
    refine num_Reader_Left_c hR8 ⟨_, rfl, ?_⟩
    have el : leftV bs 0 = (bs.length : Int) := by unfold leftV; rw [if_neg (fun h => h rfl)]
    refine cond_eq (fun _ => ?_) (fun h => absurd (by show leftV bs 0 = _; rw [el, hnb]) h)
    exact ref01_Ints_c (Cs.ofOwn o8) (hy.below b8') hm8 hm (by omega) ⟨_, rfl, rfl, b8'⟩
  cases hr : rightV l 65535 with
  | false =>
    refine reloc_Bytes_c (Cs.ofOwn o2) hm (by omega) hi (fun _ => ⟨_, _, _, _, rfl, ?_⟩) (fun h => by rw [hr] at h; cases h)
    refine ref16_Bytes_c (hy.below b2') hm (by omega) hi (fun _ => ⟨_, _, _, _, rfl, ?_⟩) (fun h => by rw [hr] at h; cases h)
    exact tail w2 w2 none none 0 0 0 0 4 [] (Below.refl _ _) (Cs.nil _ _) (Cs.nil _ _) rfl rfl (fun x hx' => by cases hx') (fun h => by cases h)
  | true =>
    refine reloc_Bytes_c (Cs.ofOwn o2) hm (by omega) hi (fun h => by rw [hr] at h; cases h) fun _ A3 c3 w3 o3 b3 => ⟨_, _, _, _, rfl, ?_⟩
    have b3' := b2'.trans (b3.mono b2'.size)
    refine ref16_Bytes_c (hy.below b3') hm (by omega) hi (fun h => by rw [hr] at h; cases h) fun _ A4 c4 w4 o4 b4 => ⟨_, _, _, _, rfl, ?_⟩
    exact tail w3 w4 A3 A4 _ c3 _ c4 0 (tabB l) (b3.trans (b4.mono b3.size)) (Cs.ofOwn (own_below_kp o3 b4)) (Cs.ofOwn o4) rfl rfl (tabB_bytes hr) (fun _ => ⟨hr, rfl⟩)

end Go.Proofs.Ytfigojigigkdmaa.C
