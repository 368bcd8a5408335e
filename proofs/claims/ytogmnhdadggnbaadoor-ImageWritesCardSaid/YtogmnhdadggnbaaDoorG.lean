/-
  Parts of the proofs of this seat: what the functions compute. No condition beyond what each theorem states.
-/
import Derived.Test.YtogmnhdadggnbaaDoorF
import Derived.Test.YtogmnhdadggnbaaDoorRK
import Derived.Test.YtogmnhdadggnbaaDoorA
import Derived.Test.YtogmnhdadggnbaaDoorB
import Derived.Test.YtogmnhdadggnbaaDoorC
import Derived.Test.YtogmnhdadggnbaaDoorD
import Derived.Test.YtogmnhdadggnbaaDoorE
set_option linter.unusedVariables false
set_option linter.unusedSimpArgs false
set_option maxRecDepth 100000
namespace Go.Proofs.YtogmnhdadggnbaaDoor.C
open Go Go.RowKit Go.Proofs.YtogmnhdadggnbaaDoor Go.Proofs.YtogmnhdadggnbaaDoor.Sh Go.Proofs.YtogmnhdadggnbaaDoor.F Go.Proofs.YtogmnhdadggnbaaDoor.R

theorem len_nil {w : World} {K : Value → World → Prop} (h : K (.int .i64 0) w) : CallsE Pg set_Set_Len.N #[.pointer none] w K := set_Set_Len.ok (condP_t h)
theorem first_nil {w : World} {i : Int} {t : Nat} {K : Value → World → Prop} (h : K (.int .i64 (-1)) w) : CallsE Pg set_Set_next.N #[.pointer none, .int .i64 i, .int .u64 (t : Int)] w K := by
  refine set_Set_next.ok ⟨1, ?_⟩
  rw [set_Set_next.l0_succ]
  have : 0 ≤ imax 0 i := by unfold imax; split <;> omega
  exact len_nil ⟨_, rfl, cond_dec (fun h1 => absurd h1 (by omega)) (fun _ => h)⟩
/-! ### the head of an image, read -/
theorem kp_new {S : Nat → Prop} {w w1 w2 : World} {g : Nat} (k : Kp S w w1) (k2 : Kp (· = g) w1 w2) (hg : w.heap.size ≤ g) : Kp S w w2 := k.trans k2 (fun _ _ h => h) (fun i hi e => by omega)
theorem kp_below {S : Nat → Prop} {w w1 w2 : World} (k : Kp S w w1) (b : Below w1.heap.size w1 w2) : Kp S w w2 := k.trans (Kp.of_below b) (fun _ _ h => h) (fun _ _ h => h.elim)
theorem kp_kp {S : Nat → Prop} {w w1 w2 : World} (k : Kp S w w1) (k2 : Kp S w1 w2) : Kp S w w2 := k.trans k2 (fun _ _ h => h) (fun _ _ h => h)
theorem rdErr_bits {bits : List Int} {n : Nat} (hn : n ≤ 16) (hl : bits.length = (n + 7) / 8) : rdErr bits (n : Int) = if badB bits n = true then 4 else 0 := by
  unfold rdErr
  rw [if_neg (by omega), if_neg (by omega), if_neg (by omega), Int.toNat_natCast]
theorem hrange (bs : List Int) (hb : Bytes bs) : (0 ≤ hPg bs ∧ hPg bs ≤ 4095) ∧ (0 ≤ hCl bs ∧ hCl bs ≤ 7) ∧ (0 ≤ hSize bs ∧ hSize bs ≤ 4096) :=
  ⟨uVal_range hb (by decide), uVal_range (uLeft_bytes hb) (by decide), uVal_range (uLeft_bytes (uLeft_bytes hb)) (by decide)⟩
section
variable {w : World} {b : Nat} {p : Option Addr} {F : Nat → Prop} {bs : List Int} {K : Value → World → Prop}
theorem head_tail (hb : Bytes bs) (hl : bs.length ≤ 140737488351232) (hFl : ∀ i, F i → i < w.heap.size) (hT : Tab w) {w1 : World} {g2 g3 : Nat} {e3 : Int} (he3 : e3 = if newErr (hPg bs) (hCl bs) (hSize bs) ≠ 0 then failV (hE3 bs) 4 else hE3 bs)
    (hR : RdV Ty.num_Reader w1 b p (hL3 bs) e3 F) (k : Kp (pt p) w w1) (hB2 : Blk w1 g2 Ty.api_Span [.int .i64 0, .int .i64 0, .int .i64 0, .slice none 0 0]) (hB3 : Blk w1 g3 Ty.api_Span [.int .i64 (hPg bs), .int .i64 (hCl bs), .int .i64 (hSize bs), .slice none 0 0]) (h2 : w.heap.size ≤ g2) (h3 : w.heap.size ≤ g3) (h23 : g2 ≠ g3) (hpw : gTab < w.heap.size) (hpT : ¬ pt p gTab)
    (hE : ∀ w' a1 a2 a3 left', hErr bs ≠ 0 → I64 a1 → I64 a2 → I64 a3 → RdV Ty.num_Reader w' b p left' (hErr bs) F → Bytes left' → left'.length ≤ bs.length → Kp (pt p) w w' → K (.agg #[.int .i64 a1, .int .i64 a2, .int .i64 a3, .slice none 0 0]) w')
    (hK' : hErr bs = 0 → ∀ A m c w', m = (hLive bs).length → w'.ownsRow w.heap.size Ty.int 1 (.slice A m c) m (nums .i64 (hLive bs)) → RdV Ty.num_Reader w' b p (hLeft bs) 0 F → Kp (pt p) w w' → K (.agg #[.int .i64 (hPg bs), .int .i64 (hCl bs), .int .i64 (hSize bs), .slice A m c]) w') :
    image_head.p2 K p ⟨g2, 0, none⟩ ⟨g3, 0, none⟩ w1 := by
  obtain ⟨r1, r2, r3⟩ := hrange bs hb
  have hb3 : Bytes (hL3 bs) := uLeft_bytes (uLeft_bytes (uLeft_bytes hb))
  have hl3 : (hL3 bs).length ≤ bs.length := Nat.le_trans uLeft_len (Nat.le_trans uLeft_len uLeft_len)
  obtain ⟨hs1, hs2⟩ := clsSlots_nat (hCl bs)
  have ek : IntKind.wrap .i64 (Int.tdiv (IntKind.wrap .i64 ((slotsN (hCl bs) : Int) + 7)) 8) = hK bs := by
    unfold hK
    rw [wrap64_in (x := (slotsN (hCl bs) : Int) + 7) (by omega) (by omega), Int.tdiv_eq_ediv_of_nonneg (by omega), wrap64_in (by omega) (by omega)]; omega
  have hk0 : 0 ≤ hK bs ∧ (hK bs).toNat = (slotsN (hCl bs) + 7) / 8 := by unfold hK; omega
  refine ⟨_, hB3.cell' (j := 1) rfl, class_Slots_c ⟨_, rfl, by decide, ?_⟩⟩
  rw [hs1, ek]
  refine num_Reader_Bytes_c hR (by omega) fun A c w2 hR2 o2 k2 => ⟨_, _, _, rfl, num_Reader_Err_c hR2 ⟨_, rfl, ?_⟩⟩
  have hpg2 : ¬ pt p g2 := fun h => by have := hFl _ (hR.pt h); omega
  have hpg3 : ¬ pt p g3 := fun h => by have := hFl _ (hR.pt h); omega
  have kk2 := kp_kp k k2
  have hB22 := hB2.kp k2 hpg2
  have hB32 := hB3.kp k2 hpg3
  have s1 := k.size
  refine cond_ne (fun he => ?_) (fun he => ?_)
  · -- a fault
    have herr : hErr bs = bErr (hL3 bs) e3 (hK bs) := by
      unfold hErr
      by_cases h3e : hE3 bs ≠ 0
      · have e : e3 = hE3 bs := by
          rw [he3]; split
          · unfold failV; rw [if_neg h3e]
          · rfl
        rw [if_pos h3e, e, (b_err h3e).2.1]
      · have h30 : hE3 bs = 0 := by omega
        rw [if_neg h3e]
        by_cases hne : newErr (hPg bs) (hCl bs) (hSize bs) ≠ 0
        · have e : e3 = 4 := by rw [he3, if_pos hne, h30]; rfl
          rw [if_pos hne, e, (b_err (by decide)).2.1]
        · have e : e3 = 0 := by rw [he3, if_neg hne, h30]
          rw [e] at he
          rw [if_neg hne, e, if_pos he]
    refine st4 hB22 fun w3 hB23 k3 _ => ?_
    refine ⟨_, hB23.cell' (j := 0) rfl, _, hB23.cell' (j := 1) rfl, _, hB23.cell' (j := 2) rfl, _, _, _, hB23.cell' (j := 3) rfl, ?_⟩
    have hR3 := hR2.kp k3 (fun i hi e => by have := hFl i hi; omega)
    refine hE w3 0 0 0 _ (by rw [herr]; exact he) ⟨by decide, by decide⟩ ⟨by decide, by decide⟩ ⟨by decide, by decide⟩ (by rw [herr]; exact hR3) (bLeft_bytes hb3) (Nat.le_trans bLeft_len hl3) (kp_new kk2 k3 h2)
  · -- none so far
    have he0 : e3 = 0 := by
      by_cases h : e3 = 0
      · exact h
      · rw [(b_err h).2.1] at he; exact absurd he h
    have h30 : hE3 bs = 0 := by
      by_cases h : hE3 bs = 0
      · exact h
      · rw [he3] at he0; split at he0
        · unfold failV at he0; rw [if_neg h] at he0; exact absurd he0 h
        · exact absurd he0 h
    have hne : newErr (hPg bs) (hCl bs) (hSize bs) = 0 := by
      by_cases h : newErr (hPg bs) (hCl bs) (hSize bs) = 0
      · exact h
      · rw [he3, if_pos h, h30] at he0; cases he0
    subst he0
    have hbits : (hBits bs).length = (slotsN (hCl bs) + 7) / 8 := by unfold hBits; rw [(b_len he hk0.1).1, hk0.2]
    have herr : hErr bs = if badB (hBits bs) (slotsN (hCl bs)) = true then 4 else 0 := by
      unfold hErr
      rw [if_neg (by omega), if_neg (by omega), if_neg (by omega)]
    have hbb : Bytes (hBits bs) := bOut_bytes hb3
    have hrd := rdErr_bits hs2 hbits
    rw [he] at hR2
    have hT2 : Tab w2 := hT.kp kk2 hpT
    refine set_Read_c (bs := hBits bs) (Cs.ofOwn o2) rfl hbb (fun w3 hne3 b3 => ⟨_, _, rfl, ?_⟩) (fun w3 q G hne3 _ hS b3 => ⟨_, _, rfl, ?_⟩)
    · have hR3 := hR2.below b3
      have kk3 := kp_below kk2 b3
      have h4 : rdErr (hBits bs) (slotsN (hCl bs) : Int) = 4 := by
        rw [hrd]; rw [hrd] at hne3; split at hne3
        · rw [if_pos (by assumption)]
        · exact absurd rfl hne3
      have hE4 : hErr bs = 4 := by rw [herr, ← hrd, h4]
      rw [h4]
      refine num_Reader_Fail_c hR3 fun w4 hR4 k4 => ⟨rfl, ?_⟩
      have kk4 := kp_kp kk3 k4
      have hB34 := ((hB32.kp (Kp.of_below b3) id).kp k4 hpg3)
      have hB24 := ((hB22.kp (Kp.of_below b3) id).kp k4 hpg2)
      refine set_Set_List.ok (set_Set_First.ok (first_nil (t := 0) ⟨_, rfl, ⟨_, rfl, 1, ?_⟩⟩))
      rw [set_Set_List.l0_succ]
      refine condP_f ⟨_, _, _, rfl, ?_⟩
      refine blk_set1 (k := 3) hB34 (by simp) fun w5 hB35 k5 _ => ?_
      have hB25 := hB24.kp k5 h23
      have hB35 : Blk w5 g3 Ty.api_Span [.int .i64 (hPg bs), .int .i64 (hCl bs), .int .i64 (hSize bs), .slice none 0 0] := hB35
      refine ⟨_, hB35.cell' (j := 0) rfl, _, hB35.cell' (j := 1) rfl, _, hB35.cell' (j := 2) rfl, _, _, _, hB35.cell' (j := 3) rfl, ?_⟩
      refine st4 hB25 fun w6 hB26 k6 _ => ?_
      refine ⟨_, hB26.cell' (j := 0) rfl, _, hB26.cell' (j := 1) rfl, _, hB26.cell' (j := 2) rfl, _, _, _, hB26.cell' (j := 3) rfl, ?_⟩
      have hR6 := (hR4.kp k5 (fun i hi e => by have := hFl i hi; omega)).kp k6 (fun i hi e => by have := hFl i hi; omega)
      refine hE w6 _ _ _ _ (by rw [hE4]; decide) ⟨by omega, by omega⟩ ⟨by omega, by omega⟩ ⟨by omega, by omega⟩ (by rw [hE4]; exact hR6) (bLeft_bytes hb3) (Nat.le_trans bLeft_len hl3) (kp_new (kp_new kk4 k5 h3) k6 h2)
    · have hR3 := hR2.below b3
      have kk3 := kp_below kk2 b3
      have hE0 : hErr bs = 0 := by rw [herr, ← hrd, hne3]
      rw [Int.toNat_natCast] at hS
      have hGl : ∀ i, G i → w2.heap.size ≤ i := fun i hi => (hS.lt hi).1
      have s2 := kk2.size
      refine num_Reader_Fail_c hR3 fun w4 hR4 k4 => ⟨rfl, ?_⟩
      have kk4 := kp_kp kk3 k4
      have hB34 := ((hB32.kp (Kp.of_below b3) id).kp k4 hpg3)
      have hB24 := ((hB22.kp (Kp.of_below b3) id).kp k4 hpg2)
      have hS4 := hS.kp k4 (fun i hi hp => by have := hFl _ (hR.pt hp); have := hGl i hi; omega)
      have hT4 : Tab w4 := hT.kp kk4 hpT
      refine set_Set_List_c hS4 hT4 fun A5 m5 c5 w5 hm5 o5 b5 => ⟨_, _, _, rfl, ?_⟩
      have kk5 := kp_below kk4 b5
      have s4 := kk4.size
      have hB25 := hB24.kp (Kp.of_below b5) id
      have hg24 := hB24.lt
      have hg34 := hB34.lt
      refine blk_set1 (k := 3) (hB34.kp (Kp.of_below b5) id) (by simp) fun w6 hB36 k6 _ => ?_
      have hB26 := hB25.kp k6 h23
      have hB36 : Blk w6 g3 Ty.api_Span [.int .i64 (hPg bs), .int .i64 (hCl bs), .int .i64 (hSize bs), .slice A5 m5 c5] := hB36
      refine ⟨_, hB36.cell' (j := 0) rfl, _, hB36.cell' (j := 1) rfl, _, hB36.cell' (j := 2) rfl, _, _, _, hB36.cell' (j := 3) rfl, ?_⟩
      refine st4 hB26 fun w7 hB27 k7 _ => ?_
      refine ⟨_, hB27.cell' (j := 0) rfl, _, hB27.cell' (j := 1) rfl, _, hB27.cell' (j := 2) rfl, _, _, _, hB27.cell' (j := 3) rfl, ?_⟩
      have hR7 := ((hR4.below b5).kp k6 (fun i hi e => by have := hFl i hi; omega)).kp k7 (fun i hi e => by have := hFl i hi; omega)
      have o7 := own_kp (own_kp o5 k6 (fun g hg e => by have := (own_lt o5 hg).1; omega)) k7 (fun g hg e => by have := (own_lt o5 hg).1; omega)
      exact hK' hE0 A5 m5 c5 w7 hm5 (own_base o7 s4) hR7 (kp_new (kp_new kk5 k6 h3) k7 h2)
theorem image_head_c (hR : RdV Ty.num_Reader w b p bs 0 F) (hb : Bytes bs) (hl : bs.length ≤ 140737488351232) (hT : Tab w) (hbT : gTab < b)
    (hE : ∀ w' a1 a2 a3 left', hErr bs ≠ 0 → I64 a1 → I64 a2 → I64 a3 → RdV Ty.num_Reader w' b p left' (hErr bs) F → Bytes left' → left'.length ≤ bs.length → Kp (pt p) w w' → K (.agg #[.int .i64 a1, .int .i64 a2, .int .i64 a3, .slice none 0 0]) w')
    (hK' : hErr bs = 0 → ∀ A m c w', m = (hLive bs).length → w'.ownsRow w.heap.size Ty.int 1 (.slice A m c) m (nums .i64 (hLive bs)) → RdV Ty.num_Reader w' b p (hLeft bs) 0 F → Kp (pt p) w w' → K (.agg #[.int .i64 (hPg bs), .int .i64 (hCl bs), .int .i64 (hSize bs), .slice A m c]) w') :
    CallsE Pg image_head.N #[.pointer p] w K := by
  obtain ⟨r1, r2, r3⟩ := hrange bs hb
  have hFl : ∀ i, F i → i < w.heap.size := fun i hi => (hR.lt hi).2
  have hpT : ¬ pt p gTab := fun h => by have := (hR.lt (hR.pt h)).1; omega
  refine image_head.ok (wlet_intro fun w1 e1 => ?_)
  have b1 : Below w.heap.size w w1 := by rw [e1]; exact (Below.refl _ _).alloc (Nat.le_refl _) _
  have hB1 : Blk w1 w.heap.size Ty.api_Span [.int .i64 0, .int .i64 0, .int .i64 0, .slice none 0 0] := by rw [e1]; exact Blk.new w _ _
  clear e1
  have k1 : Kp (pt p) w w1 := (Kp.of_below b1).mono (fun _ _ h => h.elim)
  have hpg : ¬ pt p w.heap.size := fun h => by have := hFl _ (hR.pt h); omega
  refine num_Reader_Upto_c (hR.below b1) hb (by omega) fun w2 hR2 k2 => ⟨_, rfl, ?_⟩
  refine num_Reader_Upto_c hR2 (uLeft_bytes hb) (Nat.le_trans uLeft_len (by omega)) fun w3 hR3 k3 => ⟨_, rfl, ?_⟩
  refine num_Reader_Upto_c hR3 (uLeft_bytes (uLeft_bytes hb)) (Nat.le_trans uLeft_len (Nat.le_trans uLeft_len (by omega))) fun w4 hR4 k4 => ⟨_, rfl, ?_⟩
  have kk4 := kp_kp (kp_kp (kp_kp k1 k2) k3) k4
  have hB4 := ((hB1.kp k2 hpg).kp k3 hpg).kp k4 hpg
  have s4 := kk4.size
  have e1 : IntKind.wrap .i64 (uVal bs 0 4095) = hPg bs := wrap64_in (x := hPg bs) (by omega) (by omega)
  have e2 : IntKind.wrap .i64 (uVal (uLeft bs 0 4095) (uErr bs 0 4095) 7) = hCl bs := wrap64_in (x := hCl bs) (by omega) (by omega)
  have e3 : IntKind.wrap .i64 (uVal (uLeft (uLeft bs 0 4095) (uErr bs 0 4095) 7) (uErr (uLeft bs 0 4095) (uErr bs 0 4095) 7) 4096) = hSize bs := wrap64_in (x := hSize bs) (by omega) (by omega)
  rw [e1, e2, e3]
  refine wlet_intro fun w5 e5 => ?_
  have b5 : Below w4.heap.size w4 w5 := by rw [e5]; exact (Below.refl _ _).alloc (Nat.le_refl _) _
  have hB5 : Blk w5 w4.heap.size Ty.api_Span [.int .i64 0, .int .i64 0, .int .i64 0, .slice none 0 0] := by rw [e5]; exact Blk.new w4 _ _
  clear e5
  have hg1 := hB1.lt
  have hg4 := hB4.lt
  refine st4 hB5 fun w6 hB6 k6 _ => ?_
  have kk6 := kp_new (kp_below kk4 b5) k6 s4
  have hR6 := (hR4.below b5).kp k6 (fun i hi e => by have := hFl i hi; omega)
  have hB46 := (hB4.kp (Kp.of_below b5) id).kp k6 (by omega)
  refine ⟨_, hB6.cell' (j := 0) rfl, _, hB6.cell' (j := 1) rfl, _, hB6.cell' (j := 2) rfl, ?_⟩
  refine span_New_c ⟨by omega, by omega⟩ ⟨by omega, by omega⟩ ⟨by omega, by omega⟩ (fun w7 hne b7 => ⟨_, _, rfl, ?_⟩) (fun w7 q G hne _ b7 => ⟨_, _, rfl, ?_⟩)
  · refine cond_ne (fun _ => ?_) (fun h => absurd h hne)
    refine num_Reader_Fail_c (hR6.below b7) fun w8 hR8 k8 => ⟨rfl, ?_⟩
    have hp4 : ¬ pt p w4.heap.size := fun h => by have := hFl _ (hR.pt h); omega
    exact head_tail hb hl hFl hT (by rw [if_pos hne]; rfl) hR8 (kp_kp (kp_below kk6 b7) k8) ((hB46.kp (Kp.of_below b7) id).kp k8 hpg) ((hB6.kp (Kp.of_below b7) id).kp k8 hp4) (Nat.le_refl _) s4 (by omega) hT.lt hpT hE hK'
  · refine cond_ne (fun h => absurd rfl h) (fun _ => ?_)
    exact head_tail hb hl hFl hT (by rw [if_neg (fun h => h hne)]; rfl) (hR6.below b7) (kp_below kk6 b7) (hB46.kp (Kp.of_below b7) id) (hB6.kp (Kp.of_below b7) id) (Nat.le_refl _) s4 (by omega) hT.lt hpT hE hK'
end

end Go.Proofs.YtogmnhdadggnbaaDoor.C
