/-
  Parts of the proofs of this seat: what the functions compute. No condition beyond what each theorem states.
-/
import Derived.Test.YtogmnhdadggnbaaDoorF
import Derived.Test.YtogmnhdadggnbaaDoorRK
import Derived.Test.YtogmnhdadggnbaaDoorA
import Derived.Test.YtogmnhdadggnbaaDoorB
import Derived.Test.YtogmnhdadggnbaaDoorC
import Derived.Test.YtogmnhdadggnbaaDoorD
import Derived.Test.YtogmnhdadggnbaaDoorE
import Derived.Test.YtogmnhdadggnbaaDoorG
import Derived.Test.YtogmnhdadggnbaaDoorH
import Derived.Test.YtogmnhdadggnbaaDoorI
import Derived.Test.YtogmnhdadggnbaaDoorJ
import Derived.Test.YtogmnhdadggnbaaDoorK
set_option linter.unusedVariables false
set_option linter.unusedSimpArgs false
set_option maxRecDepth 100000
namespace Go.Proofs.YtogmnhdadggnbaaDoor.C
open Go Go.RowKit Go.Proofs.YtogmnhdadggnbaaDoor Go.Proofs.YtogmnhdadggnbaaDoor.Sh Go.Proofs.YtogmnhdadggnbaaDoor.F Go.Proofs.YtogmnhdadggnbaaDoor.R

/-! ### own, Same, alive -/
section
variable {w : World} {m : ImgV} {A B D A' B' D' : Option Addr} {k0 c0 k1 c1 k2 c2 k0' c0' k1' c1' k2' c2' : Nat} {K : Value → World → Prop}
theorem law17_own_c (hK : ∀ w', Below w.heap.size w w' → K (.agg ⟨imgC m A k0 c0 B k1 c1 D k2 c2⟩) w') : CallsE Pg law17_own.N #[.agg ⟨imgC m A k0 c0 B k1 c1 D k2 c2⟩] w K := by
  refine law17_own.ok (wlet_intro fun w1 e1 => ?_)
  have b1 : Below w.heap.size w w1 := by rw [e1]; exact (Below.refl _ _).alloc (Nat.le_refl _) _
  have hB1 : Blk w1 w.heap.size Ty.image_Image (imgC m A k0 c0 B k1 c1 D k2 c2) := by rw [e1]; exact Blk.new w _ _
  clear e1
  have s1 := hB1.lt
  refine wlet_intro fun w2 e2 => ?_
  have b2 : Below w1.heap.size w1 w2 := by rw [e2]; exact (Below.refl _ _).alloc (Nat.le_refl _) _
  have hB2 : Blk w2 w1.heap.size Ty.ref17_Image [.int .i64 0, .int .i64 0, .int .i64 0, .slice none 0 0, .int .i64 0, .slice none 0 0, .slice none 0 0] := by rw [e2]; exact Blk.new w1 _ _
  clear e2
  have b2' := b1.trans (b2.mono b1.size)
  have hB12 := hB1.kp (Kp.of_below b2) id
  refine ⟨_, hB12.cell' (j := 0) rfl, _, hB12.cell' (j := 1) rfl, _, hB12.cell' (j := 2) rfl, _, _, _, hB12.cell' (j := 3) rfl, _, hB12.cell' (j := 4) rfl, _, _, _, hB12.cell' (j := 5) rfl, _, _, _, hB12.cell' (j := 6) rfl, ?_⟩
  refine st7 hB2 fun w3 hB3 k3 _ => ?_
  refine ⟨_, hB3.cell' (j := 0) rfl, _, hB3.cell' (j := 1) rfl, _, hB3.cell' (j := 2) rfl, _, _, _, hB3.cell' (j := 3) rfl, _, hB3.cell' (j := 4) rfl, _, _, _, hB3.cell' (j := 5) rfl, _, _, _, hB3.cell' (j := 6) rfl, ?_⟩
  exact hK w3 (kp_under b2' k3 (by omega))
theorem ref17_Same_c (hx : Cs w A (nums .i64 m.live)) (hx' : Cs w A' (nums .i64 m.live)) (h0 : k0 = m.live.length) (h0' : k0' = m.live.length) (hl0 : k0 ≤ 1000000000000000)
    (hy : Cs w B (nums .i64 m.offs)) (hy' : Cs w B' (nums .i64 m.offs)) (h1 : k1 = m.offs.length) (h1' : k1' = m.offs.length) (hl1 : k1 ≤ 1000000000000000)
    (hz : Cs w D (nums .u8 m.bytes)) (hz' : Cs w D' (nums .u8 m.bytes)) (h2 : k2 = m.bytes.length) (h2' : k2' = m.bytes.length) (hbb : Bytes m.bytes)
    (hK : ∀ w', Below w.heap.size w w' → K (.bool true) w') : CallsE Pg ref17_Same.N #[.agg ⟨imgC m A k0 c0 B k1 c1 D k2 c2⟩, .agg ⟨imgC m A' k0' c0' B' k1' c1' D' k2' c2'⟩] w K := by
  refine ref17_Same.ok (wlet_intro fun w1 e1 => ?_)
  have b1 : Below w.heap.size w w1 := by rw [e1]; exact (Below.refl _ _).alloc (Nat.le_refl _) _
  have hB1 : Blk w1 w.heap.size Ty.ref17_Image (imgC m A k0 c0 B k1 c1 D k2 c2) := by rw [e1]; exact Blk.new w _ _
  clear e1
  refine wlet_intro fun w2 e2 => ?_
  have b2 : Below w1.heap.size w1 w2 := by rw [e2]; exact (Below.refl _ _).alloc (Nat.le_refl _) _
  have hB2 : Blk w2 w1.heap.size Ty.ref17_Image (imgC m A' k0' c0' B' k1' c1' D' k2' c2') := by rw [e2]; exact Blk.new w1 _ _
  clear e2
  have b2' := b1.trans (b2.mono b1.size)
  have hB12 := hB1.kp (Kp.of_below b2) id
  refine ⟨_, hB12.cell' (j := 0) rfl, _, hB12.cell' (j := 1) rfl, _, hB12.cell' (j := 2) rfl, _, _, _, hB12.cell' (j := 3) rfl, _, hB2.cell' (j := 0) rfl, _, hB2.cell' (j := 1) rfl, _, hB2.cell' (j := 2) rfl, _, _, _, hB2.cell' (j := 3) rfl, ?_⟩
  refine ref10_Same_c (hx.below b2') (hx'.below b2') h0 h0' hl0 fun w3 b3 => ⟨_, rfl, ?_⟩
  have b3' := b2'.trans (b3.mono b2'.size)
  have hB13 := hB12.kp (Kp.of_below b3) id
  have hB23 := hB2.kp (Kp.of_below b3) id
  refine condP_t ⟨_, hB13.cell' (j := 4) rfl, _, hB23.cell' (j := 4) rfl, ?_⟩
  refine cond_eq (fun _ => ?_) (fun h => absurd rfl h)
  refine ⟨_, _, _, hB13.cell' (j := 5) rfl, _, _, _, hB23.cell' (j := 5) rfl, ?_⟩
  refine ref01_Ints_c (hy.below b3') (hy'.below b3') h1 h1' hl1 ⟨_, rfl, condP_t ?_⟩
  refine ⟨_, _, _, hB13.cell' (j := 6) rfl, _, _, _, hB23.cell' (j := 6) rfl, ?_⟩
  exact ref01_Same_c (hz.below b3') (hz'.below b3') h2 h2' hbb ⟨_, rfl, hK w3 b3'⟩
end
theorem bodyI_bytes {m : ImgV} (h : rightI m = true) (hb : Bytes m.bytes) : Bytes (bodyI m) := by
  have ok := img_ok h
  obtain ⟨n1, n2, n3, n4, n5, n6, n7, n8, _⟩ := new_ok ok.new
  obtain ⟨z1, z2, _⟩ := new_size ok.new
  have c0 := ok.base0
  have c1 := ok.base1
  intro x hx
  unfold bodyI at hx
  simp only [List.mem_append] at hx
  rcases hx with (((((hx | hx) | hx) | hx) | hx) | hx) | hx
  · exact varB_bytes ⟨by omega, by omega⟩ x hx
  · exact varB_bytes ⟨by omega, by omega⟩ x hx
  · exact varB_bytes ⟨by omega, by omega⟩ x hx
  · exact bytL_bytes x hx
  · exact varB_bytes ⟨by omega, by omega⟩ x hx
  · exact tabB_bytes ok.tab x hx
  · exact hb x hx
theorem bodyI_len {m : ImgV} (h : rightI m = true) : (bodyI m).length ≤ 100000 := by
  have ok := img_ok h
  have v1 := @varB_le m.pg
  have v2 := @varB_le m.cl
  have v3 := @varB_le m.size
  have v4 := @varB_le (m.base / 256)
  have hs := clsSlots_le m.cl
  have hbl := @bytL_len (setL m.live) (slotsN m.cl)
  have htl := @tabB_len m.offs
  have hol := right_len ok.tab
  have hsm := ok.small
  unfold bodyI
  simp only [List.length_append]
  omega
def im0 : ImgV := ⟨2, 0, 0, [3], 512, [8], List.replicate 16 0⟩
theorem im0_right : rightI im0 = true := by decide +kernel
theorem im0_len : (bodyI im0).length = 24 := by decide +kernel
theorem im0_at0 : (bodyI im0)[0]? = some 2 := by decide +kernel
theorem im0_at3 : (bodyI im0)[3]? = some 8 := by decide +kernel
theorem im0_size : sizeI 2 0 0 [3] = 16 := by decide +kernel
theorem law17_alive_c {w : World} {K : Value → World → Prop} (hT : Tab w) (h : ∀ w', Below w.heap.size w w' → K (.bool true) w') : CallsE Pg law17_alive.N #[] w K := by
  refine law17_alive.ok (wlet_intro fun w1 e1 => ?_)
  have b1 : Below w.heap.size w w1 := by rw [e1]; exact (Below.refl _ _).alloc (Nat.le_refl _) _
  have hB1 : Blk w1 w.heap.size Ty.int (nums .i64 [3]) := by rw [e1]; exact Blk.new w _ _
  clear e1
  refine wlet_intro fun w2 e2 => ?_
  have b2 : Below w1.heap.size w1 w2 := by rw [e2]; exact (Below.refl _ _).alloc (Nat.le_refl _) _
  have hB2 : Blk w2 w1.heap.size Ty.int (nums .i64 [8]) := by rw [e2]; exact Blk.new w1 _ _
  clear e2
  refine ⟨by decide, wlet_intro fun w3 e3 => ?_⟩
  have b3 : Below w2.heap.size w2 w3 := by rw [e3]; exact (Below.refl _ _).alloc (Nat.le_refl _) _
  have hB3 : Blk w3 w2.heap.size Ty.uint8 (nums .u8 (List.replicate 16 0)) := by
    rw [e3]
    show Blk (w2.alloc (.cells (madeCells #[.int .u8 0] (16 * 1)) _)) _ _ _
    rw [madeN]
    exact Blk.new w2 _ _
  clear e3
  refine wlet_intro fun w4 e4 => ?_
  have b4 : Below w3.heap.size w3 w4 := by rw [e4]; exact (Below.refl _ _).alloc (Nat.le_refl _) _
  have hB4 : Blk w4 w3.heap.size Ty.image_Image [.int .i64 0, .int .i64 0, .int .i64 0, .slice none 0 0, .int .i64 0, .slice none 0 0, .slice none 0 0] := by rw [e4]; exact Blk.new w3 _ _
  clear e4
  have b2' := b1.trans (b2.mono b1.size)
  have b3' := b2'.trans (b3.mono b2'.size)
  have b4' := b3'.trans (b4.mono b3'.size)
  have l1 := hB1.lt
  have l2 := hB2.lt
  have l3 := hB3.lt
  have hx4 := ((Cs.of_blk0 hB1).below b2).below b3 |>.below b4
  have hy4 := (Cs.of_blk0 hB2).below b3 |>.below b4
  have hz4 := (Cs.of_blk0 hB3).below b4
  refine st7 hB4 fun w5 hB5 k5 _ => ?_
  have b5' := kp_under b4' k5 (by have := b3'.size; omega)
  have ne : ∀ g, g < w3.heap.size → ∀ a, (some (⟨g, 0, none⟩ : Addr)) = some a → ¬ a.block = w3.heap.size := fun g hg a ha => by cases ha; show ¬ g = _; omega
  have hx5 := hx4.kp k5 (ne _ (by have := b2.size; have := b3.size; omega))
  have hy5 := hy4.kp k5 (ne _ (by have := b3.size; omega))
  have hz5 := hz4.kp k5 (ne _ l3)
  have hB5 : Blk w5 w3.heap.size Ty.image_Image (imgC im0 (some ⟨w.heap.size, 0, none⟩) 1 1 (some ⟨w1.heap.size, 0, none⟩) 1 1 (some ⟨w2.heap.size, 0, none⟩) 16 16) := hB5
  generalize w3.heap.size = g3 at hB5 ⊢
  refine ⟨_, hB5.cell' (j := 0) rfl, _, hB5.cell' (j := 1) rfl, _, hB5.cell' (j := 2) rfl, _, _, _, hB5.cell' (j := 3) rfl, _, hB5.cell' (j := 4) rfl, _, _, _, hB5.cell' (j := 5) rfl, _, _, _, hB5.cell' (j := 6) rfl, ?_⟩
  refine image_Body_c (m := im0) ⟨by decide, by decide⟩ ⟨by decide, by decide⟩ ⟨by decide, by decide⟩ hx5 rfl (by decide) (fun x hx => by rw [List.mem_singleton.1 hx]; exact ⟨by decide, by decide⟩) hy5 rfl (fun x hx => by rw [List.mem_singleton.1 hx]; exact ⟨by decide, by decide⟩) hz5 rfl (by decide) (fun w' h' => absurd im0_right (by rw [h']; decide)) fun _ A6 c6 w6 o6 b6 => ⟨_, _, _, _, rfl, ?_⟩
  have b6' := b5'.trans (b6.mono b5'.size)
  have hbb : Bytes (bodyI im0) := bodyI_bytes im0_right (fun x hx => by rw [List.eq_of_mem_replicate hx]; exact ⟨by decide, by decide⟩)
  obtain ⟨hE, hR⟩ := read_back im0_right
  refine image_Read_c (Cs.ofOwn o6) rfl hbb (by rw [im0_len]; decide) (hT.below b6' hT.lt) fun A7 m7 c7 B7 mo7 co7 D7 mb7 cb7 w7 hm7 hmo7 hmb7 o7 oo7 ob7 b7 => ⟨_, _, _, _, _, _, _, _, _, _, _, _, _, _, rfl, ?_⟩
  rw [hE]
  rw [hR] at hm7 hmo7 hmb7 o7 oo7 ob7 ⊢
  have b7' := b6'.trans (b7.mono b6'.size)
  have hB7 := (hB5.kp (Kp.of_below b6) id).kp (Kp.of_below b7) id
  have o67 := own_below_kp o6 b7
  refine wlet_intro fun w8 e8 => ?_
  have b8 : Below w7.heap.size w7 w8 := by rw [e8]; exact (Below.refl _ _).alloc (Nat.le_refl _) _
  have hB8 : Blk w8 w7.heap.size Ty.image_Image [.int .i64 0, .int .i64 0, .int .i64 0, .slice none 0 0, .int .i64 0, .slice none 0 0, .slice none 0 0] := by rw [e8]; exact Blk.new w7 _ _
  clear e8
  have b8' := b7'.trans (b8.mono b7'.size)
  have l5 := hB7.lt
  refine st7 hB8 fun w9 hB9 k9 _ => ?_
  have hx9 := ((hx5.below b6).below b7).below b8 |>.kp k9 (fun a ha => by cases ha; show ¬ w.heap.size = _; have := b2.size; have := b3.size; have := b4.size; have := k5.size; have := b6.size; have := b7.size; omega)
  have hBm9 := (hB7.kp (Kp.of_below b8) id).kp k9 (by omega)
  have f6 : ∀ g, (Value.slice A6 (bodyI im0).length c6).ownBlock = some g → ¬ g = w7.heap.size := fun g hg => by have := (own_lt o67 hg).2; omega
  have f7 : ∀ g, (Value.slice B7 mo7 co7).ownBlock = some g → ¬ g = w7.heap.size := fun g hg => by have := (own_lt oo7 hg).2; omega
  have o69 := own_kp (own_below_kp o67 b8) k9 f6
  have oo9 := own_kp (own_below_kp oo7 b8) k9 f7
  have b9' := kp_under b8' k9 (by have := b7'.size; omega)
  generalize w7.heap.size = g7 at hB9 ⊢
  refine cond_eq (fun _ => ?_) (fun h => absurd rfl h)
  refine cond_eq (fun _ => ?_) (fun h => absurd (by rw [im0_len]; rfl) h)
  obtain ⟨a, ea, hc0⟩ := (Cs.ofOwn o69).at (nums_at im0_at0)
  obtain ⟨a', ea', hc3⟩ := (Cs.ofOwn o69).at (nums_at im0_at3)
  refine ⟨⟨by decide, by rw [im0_len]; decide⟩, a, ea, _, hc0, cond_eq (fun _ => ?_) (fun h => absurd rfl h)⟩
  refine ⟨⟨by decide, by rw [im0_len]; decide⟩, a', ea', _, hc3, cond_eq (fun _ => ?_) (fun h => absurd rfl h)⟩
  refine cond_eq (fun _ => ?_) (fun h => absurd rfl h)
  refine ⟨_, hBm9.cell' (j := 0) rfl, _, hBm9.cell' (j := 1) rfl, _, hBm9.cell' (j := 2) rfl, _, _, _, hBm9.cell' (j := 3) rfl, ?_⟩
  refine image_Size_c (l := [3]) ⟨by decide, by decide⟩ ⟨by decide, by decide⟩ ⟨by decide, by decide⟩ hx9 rfl (by decide) (fun x hx => by rw [List.mem_singleton.1 hx]; exact ⟨by decide, by decide⟩) fun w10 b10 => ⟨_, rfl, ?_⟩
  have b10' := b9'.trans (b10.mono b9'.size)
  have hB10 := hB9.kp (Kp.of_below b10) id
  refine cond_eq (fun _ => ?_) (fun h => absurd im0_size h)
  refine ⟨_, hB10.cell' (j := 4) rfl, cond_eq (fun _ => ?_) (fun h => absurd rfl h)⟩
  refine ⟨_, _, _, hB10.cell' (j := 5) rfl, cond_eq (fun _ => ?_) (fun h => absurd (by rw [hmo7]; rfl) h)⟩
  obtain ⟨a'', ea'', hc8⟩ := ((Cs.ofOwn oo9).below b10).at (nums_at (show ([8] : List Int)[0]? = some 8 from rfl))
  refine ⟨_, _, _, hB10.cell' (j := 5) rfl, ⟨by decide, by rw [hmo7]; decide⟩, a'', ea'', _, hc8, cond_eq (fun _ => ?_) (fun h => absurd rfl h)⟩
  refine ⟨_, _, _, hB10.cell' (j := 3) rfl, ?_⟩
  have em : (((m7 : Nat) : Int) == 1) = true := by rw [hm7]; rfl
  show K (.bool (((m7 : Nat) : Int) == 1)) w10
  rw [em]
  exact h w10 b10'

end Go.Proofs.YtogmnhdadggnbaaDoor.C
