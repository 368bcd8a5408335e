/-
  Parts of the proofs of this seat: what the functions compute. No condition beyond what each theorem states.
-/
import Derived.Test.YtogmnhdadggnbaaDoorF
import Derived.Test.YtogmnhdadggnbaaDoorRK
import Derived.Test.YtogmnhdadggnbaaDoorA
import Derived.Test.YtogmnhdadggnbaaDoorB
import Derived.Test.YtogmnhdadggnbaaDoorC
import Derived.Test.YtogmnhdadggnbaaDoorD
import Derived.Test.YtogmnhdadggnbaaDoorE
import Derived.Test.YtogmnhdadggnbaaDoorG
import Derived.Test.YtogmnhdadggnbaaDoorH
set_option linter.unusedVariables false
set_option linter.unusedSimpArgs false
set_option maxRecDepth 100000
namespace Go.Proofs.YtogmnhdadggnbaaDoor.C
open Go Go.RowKit Go.Proofs.YtogmnhdadggnbaaDoor Go.Proofs.YtogmnhdadggnbaaDoor.Sh Go.Proofs.YtogmnhdadggnbaaDoor.F Go.Proofs.YtogmnhdadggnbaaDoor.R

/-! ### an image, read by the document -/
theorem kp_under {S : Nat → Prop} {w0 w w' : World} (h : Below w0.heap.size w0 w) (k : Kp S w w') (hs : ∀ i, S i → w0.heap.size ≤ i) : Below w0.heap.size w0 w' := h.trans (k.below h.size fun i hi hp => by have := hs i hp; omega)
section
variable {w : World} {bs : List Int} {K : Value → World → Prop}
theorem ref17_p12 {w0 : World} {b g1 g4 : Nat} {q : Addr} {F : Nat → Prop} {A : Option Addr} {m c : Nat} (hb : Bytes bs) (hl : bs.length ≤ 140737488351232) (hbw : Below w0.heap.size w0 w) (hb0 : w0.heap.size < b) (hg1 : g1 = w0.heap.size) (hg4 : w0.heap.size < g4) (hF4 : ¬ F g4)
    (hB : Blk w g1 Ty.ref17_Image [.int .i64 0, .int .i64 0, .int .i64 0, .slice none 0 0, .int .i64 0, .slice none 0 0, .slice none 0 0])
    (hM : Blk w g4 Ty.ref17_Image [.int .i64 (hPg bs), .int .i64 (hCl bs), .int .i64 (hSize bs), .slice none 0 0, .int .i64 0, .slice none 0 0, .slice none 0 0])
    (hR : RdV Ty.ref01_Reader w b (some q) (hLeft bs) 0 F) (hx : Cs w A (nums .u8 (hBits bs))) (hm : m = (hBits bs).length) (hbl : (hBits bs).length = (slotsN (hCl bs) + 7) / 8)
    (herr : hErr bs = if badB (hBits bs) (slotsN (hCl bs)) = true then 4 else 0)
    (hK : ∀ A m c B mo co D mb cb w', m = (iRes bs).live.length → mo = (iRes bs).offs.length → mb = (iRes bs).bytes.length → w'.ownsRow w0.heap.size Ty.int 1 (.slice A m c) m (nums .i64 (iRes bs).live) → w'.ownsRow w0.heap.size Ty.int 1 (.slice B mo co) mo (nums .i64 (iRes bs).offs) → w'.ownsRow w0.heap.size Ty.uint8 1 (.slice D mb cb) mb (nums .u8 (iRes bs).bytes) →
      Below w0.heap.size w0 w' → K (.tuple #[.agg #[.int .i64 (iRes bs).pg, .int .i64 (iRes bs).cl, .int .i64 (iRes bs).size, .slice A m c, .int .i64 (iRes bs).base, .slice B mo co, .slice D mb cb], .int .i64 (iErr bs)]) w') :
    ref17_Read.p12 K ⟨g1, 0, none⟩ q ⟨g4, 0, none⟩ (slotsN (hCl bs) : Int) A m c w := by
  obtain ⟨r1, r2, r3⟩ := hrange bs hb
  have hs2 := clsSlots_le (hCl bs)
  have hrd := rdErr_bits hs2 hbl
  have hbb : Bytes (hBits bs) := bOut_bytes (uLeft_bytes (uLeft_bytes (uLeft_bytes hb)))
  have hb3 : Bytes (hLeft bs) := bLeft_bytes (uLeft_bytes (uLeft_bytes (uLeft_bytes hb)))
  have hl3 : (hLeft bs).length ≤ bs.length := Nat.le_trans bLeft_len (Nat.le_trans uLeft_len (Nat.le_trans uLeft_len uLeft_len))
  have hFl : ∀ i, F i → b ≤ i := fun i hi => (hR.lt hi).1
  have hp1 : ¬ pt (some q) g1 := fun h => by have := hFl _ (hR.pt h); omega
  have hpM : ¬ pt (some q) g4 := fun h => hF4 (hR.pt h)
  have hpl : ∀ i, pt (some q) i → w0.heap.size ≤ i := fun i h => by have := hFl _ (hR.pt h); omega
  have hFM : ∀ i, F i → ¬ i = g4 := fun i h e => hF4 (e ▸ h)
  have s0 := hbw.size
  have sM := hM.lt
  have zero : ∀ w13, ∀ er : Int, er ≠ 0 → iErr bs = er → Blk w13 g1 Ty.ref17_Image [.int .i64 0, .int .i64 0, .int .i64 0, .slice none 0 0, .int .i64 0, .slice none 0 0, .slice none 0 0] → Below w0.heap.size w0 w13 → K (.tuple #[.agg #[.int .i64 0, .int .i64 0, .int .i64 0, .slice none 0 0, .int .i64 0, .slice none 0 0, .slice none 0 0], .int .i64 er]) w13 := fun w13 er hne he hB13 b13 => by
    unfold iRes at hK
    rw [he, if_pos hne] at hK
    exact hK none 0 0 none 0 0 none 0 0 w13 rfl rfl rfl (World.ownsRow_nil _ _ _ _) (World.ownsRow_nil _ _ _ _) (World.ownsRow_nil _ _ _ _) b13
  refine ref03_Read_c (bs := hBits bs) hx hm hbb (fun w3 hne3 b3 => ⟨_, _, rfl, ?_⟩) (fun w3 p G hne3 _ hS b3 => ⟨_, _, rfl, ?_⟩)
  · have h4 : hErr bs = 4 := by
      rw [herr]; rw [hrd] at hne3; split at hne3
      · rw [if_pos (by assumption)]
      · exact absurd rfl hne3
    have hi4 : iErr bs = 4 := by unfold iErr; rw [h4, if_pos (by decide)]
    refine cond_ne (fun _ => ?_) (fun h => absurd h hne3)
    refine st7 (hB.kp (Kp.of_below b3) id) fun w4 hB4 k4 s4 => ?_
    refine ⟨_, hB4.cell' (j := 0) rfl, _, hB4.cell' (j := 1) rfl, _, hB4.cell' (j := 2) rfl, _, _, _, hB4.cell' (j := 3) rfl, _, hB4.cell' (j := 4) rfl, _, _, _, hB4.cell' (j := 5) rfl, _, _, _, hB4.cell' (j := 6) rfl, ?_⟩
    exact zero w4 4 (by decide) hi4 hB4 (kp_under (hbw.trans (b3.mono s0)) k4 (by omega))
  · have hE0 : hErr bs = 0 := by rw [herr, ← hrd, hne3]
    rw [Int.toNat_natCast] at hS
    refine cond_ne (fun h => absurd rfl h) (fun _ => ?_)
    have b3' := hbw.trans (b3.mono s0)
    refine ref03_Set_List_c hS fun A5 m5 c5 w5 hm5 o5 b5 => ⟨_, _, _, rfl, ?_⟩
    have b5' := b3'.trans (b5.mono b3'.size)
    change m5 = (hLive bs).length at hm5
    change w5.ownsRow _ _ _ _ _ (nums .i64 (hLive bs)) at o5
    have hR5 := (hR.below b3).below b5
    have hM5 := (hM.kp (Kp.of_below b3) id).kp (Kp.of_below b5) id
    have hB5 := (hB.kp (Kp.of_below b3) id).kp (Kp.of_below b5) id
    have s3 := b3.size
    have hl16 : (hLive bs).length ≤ 16 := by
      have := @memL_le (bitsOf (hBits bs)) 0 (slotsN (hCl bs))
      unfold hLive; omega
    have hi5 : ∀ x ∈ hLive bs, I64 x := memL_I (by omega)
    have f5 : ∀ g, (Value.slice A5 m5 c5).ownBlock = some g → ¬ g = g4 := fun g hg e => by have := (own_lt o5 hg).1; omega
    have hFu : ∀ i, F i → i < w.heap.size := fun i hi => (hR.lt hi).2
    have f5p : ∀ g, (Value.slice A5 m5 c5).ownBlock = some g → ¬ pt (some q) g := fun g hg e => by have := (own_lt o5 hg).1; have := hFu _ (hR.pt e); omega
    refine blk_set1 (k := 3) hM5 (by simp) fun w6 hM6 k6 _ => ?_
    have b6' := kp_under b5' k6 (by omega)
    refine ref01_Reader_Upto_c (hR5.kp k6 hFM) hb3 (by omega) (by decide) fun w7 hR7 k7 => ⟨_, rfl, ?_⟩
    have b7' := kp_under b6' k7 hpl
    have hu := uVal_range (left := hLeft bs) (err := 0) (most := 4294967296) hb3 (by decide)
    have eb : IntKind.wrap .i64 (256 * IntKind.wrap .i64 (uVal (hLeft bs) 0 4294967296)) = 256 * uVal (hLeft bs) 0 4294967296 := by
      rw [wrap64_in (x := uVal (hLeft bs) 0 4294967296) (by omega) (by omega), wrap64_in (by omega) (by omega)]
    rw [eb]
    have o7 := own_kp (own_kp o5 k6 f5) k7 f5p
    refine blk_set1 (k := 4) (hM6.kp k7 hpM) (by simp) fun w8 hM8 k8 _ => ?_
    have b8' := kp_under b7' k8 (by omega)
    have o8 := own_kp o7 k8 f5
    have hB8 := ((hB5.kp k6 (by omega)).kp k7 hp1).kp k8 (by omega)
    have s8 := k8.size
    have s7 := k7.size
    have s6 := k6.size
    have s5 := b5.size
    refine ref16_Read_any_c (hR7.kp k8 hFM) (uLeft_bytes hb3) (Nat.le_trans uLeft_len (by omega)) fun A9 m9 c9 w9 hm9 o9 hR9 k9 => ⟨_, _, _, rfl, ?_⟩
    have b9' := kp_under b8' k9 hpl
    have f9 : ∀ g, (Value.slice A9 m9 c9).ownBlock = some g → ¬ g = g4 := fun g hg => by have := (own_lt o9 hg).1; omega
    have f9p : ∀ g, (Value.slice A9 m9 c9).ownBlock = some g → ¬ pt (some q) g := fun g hg h => by have := (own_lt o9 hg).1; have := hFu _ (hR.pt h); omega
    refine blk_set1 (k := 5) (hM8.kp k9 hpM) (by simp) fun w10 hM10 k10 _ => ?_
    have b10' := kp_under b9' k10 (by omega)
    have o10 := own_kp (own_kp o8 k9 f5p) k10 f5
    have o90 := own_kp o9 k10 f9
    have hB10 := (hB8.kp k9 hp1).kp k10 (by omega)
    have hR10 := hR9.kp k10 hFM
    have s9 := k9.size
    have s10 := k10.size
    refine ⟨_, hM10.cell' (j := 0) rfl, _, hM10.cell' (j := 1) rfl, _, hM10.cell' (j := 2) rfl, _, _, _, hM10.cell' (j := 3) rfl, ?_⟩
    refine ref17_Size_c ⟨by omega, by omega⟩ ⟨by omega, by omega⟩ ⟨by omega, by omega⟩ (Cs.ofOwn o10) hm5 (by omega) hi5 fun w11 b11 => ⟨_, rfl, ?_⟩
    have s11 := b11.size
    have hll : (tL (uLeft (hLeft bs) 0 4294967296) (uErr (hLeft bs) 0 4294967296)).length ≤ (hLeft bs).length := by
      unfold tL
      split
      · exact uLeft_len
      · exact Nat.le_trans (readF_len _ _ _ _).2 (Nat.le_trans uLeft_len uLeft_len)
    refine ref01_Reader_Bytes_c (hR10.below b11) (by omega) fun A12 c12 w12 hR12 o12 k12 => ⟨_, _, _, rfl, ?_⟩
    have s12 := k12.size
    have b12' := kp_under (b10'.trans (b11.mono b10'.size)) k12 hpl
    have f12 : ∀ g, (Value.slice A12 (bOut (tL (uLeft (hLeft bs) 0 4294967296) (uErr (hLeft bs) 0 4294967296)) (tE (uLeft (hLeft bs) 0 4294967296) (uErr (hLeft bs) 0 4294967296)) (sizeI (hPg bs) (hCl bs) (hSize bs) (hLive bs))).length c12).ownBlock = some g → ¬ g = g4 := fun g hg => by have := (own_lt o12 hg).1; omega
    refine blk_set1 (k := 6) ((hM10.kp (Kp.of_below b11) id).kp k12 hpM) (by simp) fun w13 hM13 k13 _ => ?_
    have b13' := kp_under b12' k13 (by omega)
    have hB13 := ((hB10.kp (Kp.of_below b11) id).kp k12 hp1).kp k13 (by omega)
    have o13 := own_kp (own_kp (own_below_kp o10 b11) k12 f5p) k13 f5
    have o93 := own_kp (own_kp (own_below_kp o90 b11) k12 f9p) k13 f9
    have o123 := own_kp o12 k13 f12
    have hR13 := hR12.kp k13 hFM
    have hi0 : iErr bs = tErr (hPg bs) (hCl bs) (hSize bs) (hLive bs) (hLeft bs) 0 := by unfold iErr; rw [if_neg (fun h => h hE0)]
    refine ref01_Reader_End_c hR13 ⟨_, rfl, ?_⟩
    change condP (tEnd (hPg bs) (hCl bs) (hSize bs) (hLive bs) (hLeft bs) 0 != 0) _ _
    refine cond_ne (fun he => ?_) (fun he => ?_)
    · refine ref01_Reader_End_c hR13 ⟨_, rfl, ?_⟩
      refine st7 hB13 fun w14 hB14 k14 _ => ?_
      refine ⟨_, hB14.cell' (j := 0) rfl, _, hB14.cell' (j := 1) rfl, _, hB14.cell' (j := 2) rfl, _, _, _, hB14.cell' (j := 3) rfl, _, hB14.cell' (j := 4) rfl, _, _, _, hB14.cell' (j := 5) rfl, _, _, _, hB14.cell' (j := 6) rfl, ?_⟩
      exact zero w14 (tEnd (hPg bs) (hCl bs) (hSize bs) (hLive bs) (hLeft bs) 0) he (by rw [hi0]; unfold tErr; rw [if_pos he]) hB14 (kp_under b13' k14 (by omega))
    · obtain ⟨_, _, hr5, _, _⟩ := tEnd_0 (pg := hPg bs) (cl := hCl bs) (size := hSize bs) (l := hLive bs) hb3 he
      have hi9 := right_I hr5
      generalize hv : tVal (hPg bs) (hCl bs) (hSize bs) (hLive bs) (hLeft bs) 0 = V at hi9 hr5
      have hM13 : Blk w13 g4 Ty.ref17_Image [.int .i64 (hPg bs), .int .i64 (hCl bs), .int .i64 (hSize bs), .slice A5 m5 c5, .int .i64 V.base, .slice A9 m9 c9, .slice A12 V.bytes.length c12] := by rw [← hv]; exact hM13
      refine ⟨_, hM13.cell' (j := 0) rfl, _, hM13.cell' (j := 1) rfl, _, hM13.cell' (j := 2) rfl, _, _, _, hM13.cell' (j := 3) rfl, _, hM13.cell' (j := 4) rfl, _, _, _, hM13.cell' (j := 5) rfl, _, _, _, hM13.cell' (j := 6) rfl, ?_⟩
      have hsz := @size_I (hPg bs) (hCl bs) (hSize bs) (hLive bs)
      have hbl : V.bytes.length ≤ (hLeft bs).length := by rw [← hv]; exact Nat.le_trans bOut_len hll
      have ho : w13.ownsRow w8.heap.size Ty.int 1 (.slice A9 m9 c9) m9 (nums .i64 V.offs) := by rw [← hv]; exact o93
      have hmo : m9 = V.offs.length := by rw [← hv]; exact hm9
      have ho2 : w13.ownsRow w11.heap.size Ty.uint8 1 (.slice A12 V.bytes.length c12) V.bytes.length (nums .u8 V.bytes) := by rw [← hv]; exact o123
      refine ref17_Right_c (offs := V.offs) (bytes := V.bytes) ⟨by omega, by omega⟩ ⟨by omega, by omega⟩ ⟨by omega, by omega⟩ (Cs.ofOwn o13) hm5 (by omega) hi5 (Cs.ofOwn ho) hmo hi9 rfl (by omega) fun w14 b14 => ⟨_, rfl, ?_⟩
      have b14' := b13'.trans (b14.mono b13'.size)
      have hM14 := hM13.kp (Kp.of_below b14) id
      have hB14 := hB13.kp (Kp.of_below b14) id
      have hV : (⟨hPg bs, hCl bs, hSize bs, hLive bs, V.base, V.offs, V.bytes⟩ : ImgV) = V := by rw [← hv]; rfl
      rw [hV]
      have eT : iErr bs = if rightI V = true then 0 else 4 := by rw [hi0]; unfold tErr; rw [if_neg (fun h => h he), hv]
      have s14 := b14'.size
      cases hr : rightI V with
      | false =>
        rw [hr, if_neg (by decide)] at eT
        refine condP_t ?_
        refine st7 hB14 fun w15 hB15 k15 _ => ?_
        refine ⟨_, hB15.cell' (j := 0) rfl, _, hB15.cell' (j := 1) rfl, _, hB15.cell' (j := 2) rfl, _, _, _, hB15.cell' (j := 3) rfl, _, hB15.cell' (j := 4) rfl, _, _, _, hB15.cell' (j := 5) rfl, _, _, _, hB15.cell' (j := 6) rfl, ?_⟩
        exact zero w15 4 (by decide) eT hB15 (kp_under b14' k15 (by omega))
      | true =>
        rw [hr, if_pos rfl] at eT
        refine condP_f ?_
        refine ⟨_, hM14.cell' (j := 0) rfl, _, hM14.cell' (j := 1) rfl, _, hM14.cell' (j := 2) rfl, _, _, _, hM14.cell' (j := 3) rfl, _, hM14.cell' (j := 4) rfl, _, _, _, hM14.cell' (j := 5) rfl, _, _, _, hM14.cell' (j := 6) rfl, ?_⟩
        refine st7 hB14 fun w15 hB15 k15 _ => ?_
        refine ⟨_, hB15.cell' (j := 0) rfl, _, hB15.cell' (j := 1) rfl, _, hB15.cell' (j := 2) rfl, _, _, _, hB15.cell' (j := 3) rfl, _, hB15.cell' (j := 4) rfl, _, _, _, hB15.cell' (j := 5) rfl, _, _, _, hB15.cell' (j := 6) rfl, ?_⟩
        have eR : iRes bs = V := by unfold iRes; rw [eT, if_neg (fun h => h rfl), hv]
        have eV : (V.pg = hPg bs ∧ V.cl = hCl bs ∧ V.size = hSize bs) ∧ V.live = hLive bs := by rw [← hV]; exact ⟨⟨rfl, rfl, rfl⟩, rfl⟩
        rw [eT, eR, eV.1.1, eV.1.2.1, eV.1.2.2, eV.2] at hK
        have h5 : ∀ g, (Value.slice A5 m5 c5).ownBlock = some g → ¬ g = g1 := fun g hg => by have := (own_lt o5 hg).1; omega
        have h9 : ∀ g, (Value.slice A9 m9 c9).ownBlock = some g → ¬ g = g1 := fun g hg => by have := (own_lt o9 hg).1; omega
        have h12 : ∀ g, (Value.slice A12 V.bytes.length c12).ownBlock = some g → ¬ g = g1 := fun g hg => by have := (own_lt ho2 hg).1; omega
        exact hK A5 m5 c5 A9 m9 c9 A12 _ c12 w15 hm5 hmo rfl (own_base (own_kp (own_below_kp o13 b14) k15 h5) (by omega)) (own_base (own_kp (own_below_kp ho b14) k15 h9) (by omega)) (own_base (own_kp (own_below_kp ho2 b14) k15 h12) (by omega)) (kp_under b14' k15 (by omega))
end
section
variable {w : World} {bs : List Int} {K : Value → World → Prop}
theorem ref17_Read_c {A : Option Addr} {n c : Nat} (hx : Cs w A (nums .u8 bs)) (hn : n = bs.length) (hb : Bytes bs) (hl : n ≤ 140737488351232)
    (hK : ∀ A m c B mo co D mb cb w', m = (iRes bs).live.length → mo = (iRes bs).offs.length → mb = (iRes bs).bytes.length → w'.ownsRow w.heap.size Ty.int 1 (.slice A m c) m (nums .i64 (iRes bs).live) → w'.ownsRow w.heap.size Ty.int 1 (.slice B mo co) mo (nums .i64 (iRes bs).offs) → w'.ownsRow w.heap.size Ty.uint8 1 (.slice D mb cb) mb (nums .u8 (iRes bs).bytes) →
      Below w.heap.size w w' → K (.tuple #[.agg #[.int .i64 (iRes bs).pg, .int .i64 (iRes bs).cl, .int .i64 (iRes bs).size, .slice A m c, .int .i64 (iRes bs).base, .slice B mo co, .slice D mb cb], .int .i64 (iErr bs)]) w') :
    CallsE Pg ref17_Read.N #[.slice A n c] w K := by
  obtain ⟨r1, r2, r3⟩ := hrange bs hb
  refine ref17_Read.ok (wlet_intro fun w1 e1 => ?_)
  have b1 : Below w.heap.size w w1 := by rw [e1]; exact (Below.refl _ _).alloc (Nat.le_refl _) _
  have hB1 : Blk w1 w.heap.size Ty.ref17_Image [.int .i64 0, .int .i64 0, .int .i64 0, .slice none 0 0, .int .i64 0, .slice none 0 0, .slice none 0 0] := by rw [e1]; exact Blk.new w _ _
  clear e1
  have s1 := hB1.lt
  generalize hg1 : w.heap.size = g1 at hB1 ⊢
  refine ref01_Copy_c (hx.below b1) hn (by omega) fun A2 c2 w2 o2 b2 => ⟨_, _, _, rfl, wlet_intro fun w3 h3 => ?_⟩
  obtain ⟨hR3, b3⟩ := ref_new o2 b2.size hn h3
  clear h3
  have s2 := b2.size
  have s3 := b3.size
  have hB3 := (hB1.kp (Kp.of_below b2) id).kp (Kp.of_below b3) id
  have b3' : Below w.heap.size w w3 := (b1.trans (b2.mono b1.size)).trans (b3.mono (by omega))
  generalize (fun i => i = w2.heap.size ∨ A2.map (·.block) = some i) = F at hR3
  generalize (⟨w2.heap.size, 0, none⟩ : Addr) = q at hR3 ⊢
  have hFl : ∀ i, F i → w1.heap.size ≤ i ∧ i < w3.heap.size := fun i hi => hR3.lt hi
  have hpF : ∀ i, pt (some q) i → F i := fun i h => hR3.pt h
  have hp1 : ¬ pt (some q) g1 := fun h => by have := hFl _ (hpF _ h); omega
  have hpl : ∀ i, pt (some q) i → w.heap.size ≤ i := fun i h => by have := hFl _ (hpF _ h); omega
  refine ref01_Reader_Upto_c hR3 hb (by omega) (by decide) fun w4 hR4 k4 => ⟨_, rfl, ?_⟩
  refine ref01_Reader_Upto_c hR4 (uLeft_bytes hb) (Nat.le_trans uLeft_len (by omega)) (by decide) fun w5 hR5 k5 => ⟨_, rfl, ?_⟩
  refine ref01_Reader_Upto_c hR5 (uLeft_bytes (uLeft_bytes hb)) (Nat.le_trans uLeft_len (Nat.le_trans uLeft_len (by omega))) (by decide) fun w6 hR6 k6 => ⟨_, rfl, ?_⟩
  have b6' := kp_under (kp_under (kp_under b3' k4 hpl) k5 hpl) k6 hpl
  have hB6 := ((hB3.kp k4 hp1).kp k5 hp1).kp k6 hp1
  have s46 := (kp_kp (kp_kp k4 k5) k6).size
  have e1 : IntKind.wrap .i64 (uVal bs 0 4095) = hPg bs := wrap64_in (x := hPg bs) (by omega) (by omega)
  have e2 : IntKind.wrap .i64 (uVal (uLeft bs 0 4095) (uErr bs 0 4095) 7) = hCl bs := wrap64_in (x := hCl bs) (by omega) (by omega)
  have e3 : IntKind.wrap .i64 (uVal (uLeft (uLeft bs 0 4095) (uErr bs 0 4095) 7) (uErr (uLeft bs 0 4095) (uErr bs 0 4095) 7) 4096) = hSize bs := wrap64_in (x := hSize bs) (by omega) (by omega)
  rw [e1, e2, e3]
  change RdV Ty.ref01_Reader w6 _ _ (hL3 bs) (hE3 bs) F at hR6
  refine wlet_intro fun w7 e7 => ?_
  have b7 : Below w6.heap.size w6 w7 := by rw [e7]; exact (Below.refl _ _).alloc (Nat.le_refl _) _
  have hM7 : Blk w7 w6.heap.size Ty.ref17_Image [.int .i64 0, .int .i64 0, .int .i64 0, .slice none 0 0, .int .i64 0, .slice none 0 0, .slice none 0 0] := by rw [e7]; exact Blk.new w6 _ _
  clear e7
  generalize hg4 : w6.heap.size = g4 at hM7 ⊢
  have s7 := b7.size
  have s7' := hM7.lt
  refine st7 hM7 fun w8 hM8 k8 s8 => ?_
  have hF4 : ¬ F g4 := fun h => by have := hFl _ h; omega
  have hpM : ¬ pt (some q) g4 := fun h => hF4 (hpF _ h)
  have hFM : ∀ i, F i → ¬ i = g4 := fun i h e => hF4 (e ▸ h)
  have hR8 := (hR6.below b7).kp k8 hFM
  have hB8 := (hB6.kp (Kp.of_below b7) id).kp k8 (by omega)
  have b8' := kp_under (b6'.trans (b7.mono (by omega))) k8 (by omega)
  have hb3 : Bytes (hL3 bs) := uLeft_bytes (uLeft_bytes (uLeft_bytes hb))
  have hl3 : (hL3 bs).length ≤ bs.length := Nat.le_trans uLeft_len (Nat.le_trans uLeft_len uLeft_len)
  have zero : ∀ w13, ∀ er : Int, er ≠ 0 → iErr bs = er → Blk w13 g1 Ty.ref17_Image [.int .i64 0, .int .i64 0, .int .i64 0, .slice none 0 0, .int .i64 0, .slice none 0 0, .slice none 0 0] → Below w.heap.size w w13 → K (.tuple #[.agg #[.int .i64 0, .int .i64 0, .int .i64 0, .slice none 0 0, .int .i64 0, .slice none 0 0, .slice none 0 0], .int .i64 er]) w13 := fun w13 er hne he hB13 b13 => by
    unfold iRes at hK
    rw [he, if_pos hne] at hK
    exact hK none 0 0 none 0 0 none 0 0 w13 rfl rfl rfl (World.ownsRow_nil _ _ _ _) (World.ownsRow_nil _ _ _ _) (World.ownsRow_nil _ _ _ _) (hg1 ▸ b13)
  have hi : ∀ er : Int, er ≠ 0 → hErr bs = er → iErr bs = er := fun er hne he => by unfold iErr; rw [he, if_pos hne]
  have err_read : ∀ (w' : World) (left : List Int) (er : Int), RdV Ty.ref01_Reader w' w1.heap.size (some q) left er F → ∃ S : Array Obj → Prop, S w'.heap ∧ (∀ w'' : World, S w''.heap → w''.cell? (q.add 1) = some (.int .i64 er)) ∧ ∀ w'', Kp (· = g1) w' w'' → S w''.heap := fun w' left er hR => by
    obtain ⟨t, A', c', hq, hbt, hB', _⟩ := hR
    cases hq
    refine ⟨fun H => H[t]? = some (.cells ⟨[.slice A' left.length c', .int .i64 er]⟩ Ty.ref01_Reader (0, 0)), hB', fun w'' hh => Blk.cell' (show Blk w'' t Ty.ref01_Reader _ from hh) (j := 1) rfl, fun w'' k => ?_⟩
    exact hB'.kp k (by omega)
  obtain ⟨a, ea, hc8⟩ := hR8.err_cell
  cases ea
  refine ⟨_, rfl, _, hc8, ?_⟩
  refine cond_ne (fun he => ?_) (fun he => ?_)
  · obtain ⟨S, hS, hSc, hSk⟩ := err_read _ _ _ hR8
    refine ⟨S, hS, _, rfl, _, hSc, hS, ?_⟩
    refine st7 hB8 fun w9 hB9 k9 _ => ?_
    refine ⟨hSk _ k9, ?_⟩
    refine ⟨_, hB9.cell' (j := 0) rfl, _, hB9.cell' (j := 1) rfl, _, hB9.cell' (j := 2) rfl, _, _, _, hB9.cell' (j := 3) rfl, _, hB9.cell' (j := 4) rfl, _, _, _, hB9.cell' (j := 5) rfl, _, _, _, hB9.cell' (j := 6) rfl, ?_⟩
    exact zero w9 (hE3 bs) he (hi _ he (by unfold hErr; rw [if_pos he])) hB9 (kp_under b8' k9 (by omega))
  · have he3 : hE3 bs = 0 := he
    rw [he3] at hR8
    refine ⟨_, hM8.cell' (j := 0) rfl, _, hM8.cell' (j := 1) rfl, _, hM8.cell' (j := 2) rfl, ?_⟩
    refine ref10_New_c ⟨by omega, by omega⟩ ⟨by omega, by omega⟩ ⟨by omega, by omega⟩ (fun hne => ⟨_, _, rfl, ?_⟩) (fun w9 p G hne _ b9 => ⟨_, _, rfl, ?_⟩)
    · refine cond_ne (fun _ => ?_) (fun h => absurd h hne)
      refine st7 hB8 fun w9 hB9 k9 _ => ?_
      refine ⟨_, hB9.cell' (j := 0) rfl, _, hB9.cell' (j := 1) rfl, _, hB9.cell' (j := 2) rfl, _, _, _, hB9.cell' (j := 3) rfl, _, hB9.cell' (j := 4) rfl, _, _, _, hB9.cell' (j := 5) rfl, _, _, _, hB9.cell' (j := 6) rfl, ?_⟩
      exact zero w9 4 (by decide) (hi _ (by decide) (by unfold hErr; rw [if_neg (fun h => h he3), if_pos hne])) hB9 (kp_under b8' k9 (by omega))
    · refine cond_ne (fun h => absurd rfl h) (fun _ => ?_)
      have b9' := b8'.trans (b9.mono b8'.size)
      have hM9 := hM8.kp (Kp.of_below b9) id
      have hB9 := hB8.kp (Kp.of_below b9) id
      have hR9 := hR8.below b9
      obtain ⟨hs1, hs2⟩ := clsSlots_nat (hCl bs)
      have ek : IntKind.wrap .i64 (Int.tdiv (IntKind.wrap .i64 ((slotsN (hCl bs) : Int) + 7)) 8) = C.hK bs := by
        unfold C.hK
        rw [wrap64_in (x := (slotsN (hCl bs) : Int) + 7) (by omega) (by omega), Int.tdiv_eq_ediv_of_nonneg (by omega), wrap64_in (by omega) (by omega)]; omega
      have hk0 : 0 ≤ C.hK bs ∧ (C.hK bs).toNat = (slotsN (hCl bs) + 7) / 8 := by unfold C.hK; omega
      refine ⟨_, hM9.cell' (j := 1) rfl, ref06_Slots_c ⟨_, rfl, by decide, ?_⟩⟩
      rw [hs1, ek]
      refine ref01_Reader_Bytes_c hR9 (by omega) fun A10 c10 w10 hR10 o10 k10 => ⟨_, _, _, rfl, ?_⟩
      have b10' := kp_under b9' k10 hpl
      have hM10 := hM9.kp k10 hpM
      have hB10 := hB9.kp k10 hp1
      obtain ⟨a, ea, hc10⟩ := hR10.err_cell
      cases ea
      refine ⟨_, rfl, _, hc10, ?_⟩
      refine cond_ne (fun he => ?_) (fun he => ?_)
      · obtain ⟨S, hS, hSc, hSk⟩ := err_read _ _ _ hR10
        refine ⟨S, hS, _, rfl, _, hSc, hS, ?_⟩
        refine st7 hB10 fun w11 hB11 k11 _ => ?_
        refine ⟨hSk _ k11, ?_⟩
        refine ⟨_, hB11.cell' (j := 0) rfl, _, hB11.cell' (j := 1) rfl, _, hB11.cell' (j := 2) rfl, _, _, _, hB11.cell' (j := 3) rfl, _, hB11.cell' (j := 4) rfl, _, _, _, hB11.cell' (j := 5) rfl, _, _, _, hB11.cell' (j := 6) rfl, ?_⟩
        exact zero w11 (bErr (hL3 bs) 0 (C.hK bs)) he (hi _ he (by unfold hErr; rw [if_neg (fun h => h he3), if_neg (fun h => h hne), if_pos he])) hB11 (kp_under b10' k11 (by omega))
      · have heb : bErr (hL3 bs) 0 (C.hK bs) = 0 := he
        rw [heb] at hR10
        have hbits : (hBits bs).length = (slotsN (hCl bs) + 7) / 8 := by unfold hBits; rw [(b_len heb hk0.1).1, hk0.2]
        have herr : hErr bs = if badB (hBits bs) (slotsN (hCl bs)) = true then 4 else 0 := by
          unfold hErr
          rw [if_neg (fun h => h he3), if_neg (fun h => h hne), if_neg (fun h => h heb)]
        subst hg1
        exact ref17_p12 hb (by omega) b10' (by omega) rfl (by omega) hF4 hB10 hM10 hR10 (Cs.ofOwn o10) rfl hbits herr hK
end

end Go.Proofs.YtogmnhdadggnbaaDoor.C
