/-
  Parts of the proofs of this seat: what the functions compute. No condition beyond what each theorem states.
-/
import Derived.Test.YtogmnhdadggnbaaDoorF
import Derived.Test.YtogmnhdadggnbaaDoorRK
import Derived.Test.YtogmnhdadggnbaaDoorA
import Derived.Test.YtogmnhdadggnbaaDoorB
import Derived.Test.YtogmnhdadggnbaaDoorC
import Derived.Test.YtogmnhdadggnbaaDoorD
import Derived.Test.YtogmnhdadggnbaaDoorE
import Derived.Test.YtogmnhdadggnbaaDoorG
import Derived.Test.YtogmnhdadggnbaaDoorH
import Derived.Test.YtogmnhdadggnbaaDoorI
import Derived.Test.YtogmnhdadggnbaaDoorJ
import Derived.Test.YtogmnhdadggnbaaDoorK
import Derived.Test.YtogmnhdadggnbaaDoorL
import Derived.Test.YtogmnhdadggnbaaDoorM
import Derived.Test.YtogmnhdadggnbaaDoorP
set_option linter.unusedVariables false
set_option linter.unusedSimpArgs false
set_option maxRecDepth 100000
namespace Go.Proofs.YtogmnhdadggnbaaDoor.C
open Go Go.RowKit Go.Proofs.YtogmnhdadggnbaaDoor Go.Proofs.YtogmnhdadggnbaaDoor.Sh Go.Proofs.YtogmnhdadggnbaaDoor.F Go.Proofs.YtogmnhdadggnbaaDoor.R

/-! ### ImageWrites -/
section
variable {w : World} {m : ImgV} {A B D : Option Addr} {k0 c0 k1 c1 k2 c2 : Nat} {K : Value → World → Prop}
theorem law17_ref_c (hx : Cs w A (nums .i64 m.live)) (h0 : k0 = m.live.length) (hl0 : k0 * 8 ≤ 140737488355328) (hy : Cs w B (nums .i64 m.offs)) (h1 : k1 = m.offs.length) (hl1 : k1 * 8 ≤ 140737488355328) (hz : Cs w D (nums .u8 m.bytes)) (h2 : k2 = m.bytes.length) (hl2 : k2 ≤ 140737488355328)
    (hK : ∀ A' c0' B' c1' D' c2' w', w'.ownsRow w.heap.size Ty.int 1 (.slice A' k0 c0') k0 (nums .i64 m.live) → w'.ownsRow w.heap.size Ty.int 1 (.slice B' k1 c1') k1 (nums .i64 m.offs) → w'.ownsRow w.heap.size Ty.uint8 1 (.slice D' k2 c2') k2 (nums .u8 m.bytes) → Below w.heap.size w w' → K (.agg ⟨imgC m A' k0 c0' B' k1 c1' D' k2 c2'⟩) w') :
    CallsE Pg law17_Image_ref.N #[.agg ⟨imgC m A k0 c0 B k1 c1 D k2 c2⟩] w K := by
  refine law17_Image_ref.ok (wlet_intro fun w1 e1 => ?_)
  have b1 : Below w.heap.size w w1 := by rw [e1]; exact (Below.refl _ _).alloc (Nat.le_refl _) _
  have hB1 : Blk w1 w.heap.size Ty.law17_Image (imgC m A k0 c0 B k1 c1 D k2 c2) := by rw [e1]; exact Blk.new w _ _
  clear e1
  have s1 := hB1.lt
  refine wlet_intro fun w2 e2 => ?_
  have b2 : Below w1.heap.size w1 w2 := by rw [e2]; exact (Below.refl _ _).alloc (Nat.le_refl _) _
  have hB2 : Blk w2 w1.heap.size Ty.ref17_Image [.int .i64 0, .int .i64 0, .int .i64 0, .slice none 0 0, .int .i64 0, .slice none 0 0, .slice none 0 0] := by rw [e2]; exact Blk.new w1 _ _
  clear e2
  have s2 := hB2.lt
  have b2' := b1.trans (b2.mono b1.size)
  have hB12 := hB1.kp (Kp.of_below b2) id
  refine ⟨_, hB12.cell' (j := 0) rfl, _, hB12.cell' (j := 1) rfl, _, hB12.cell' (j := 2) rfl, _, _, _, hB12.cell' (j := 3) rfl, _, hB12.cell' (j := 4) rfl, _, _, _, hB12.cell' (j := 5) rfl, _, _, _, hB12.cell' (j := 6) rfl, ?_⟩
  refine law17_theirs_c (hx.below b2') h0 hl0 (hy.below b2') h1 hl1 (hz.below b2') h2 hl2 fun A3 c3 B3 d3 D3 e3 w3 o3 oo3 ob3 b3 => ⟨_, _, _, _, _, _, _, _, _, _, _, _, _, rfl, ?_⟩
  have b3' := b2'.trans (b3.mono b2'.size)
  refine law17_own_c (m := m) fun w4 b4 => ⟨_, _, _, _, _, _, _, _, _, _, _, _, _, rfl, ?_⟩
  have b4' := b3'.trans (b4.mono b3'.size)
  have hB4 := (hB2.kp (Kp.of_below b3) id).kp (Kp.of_below b4) id
  generalize hg : w1.heap.size = g at hB4 ⊢
  refine st7 hB4 fun w5 hB5 k5 _ => ?_
  refine ⟨_, hB5.cell' (j := 0) rfl, _, hB5.cell' (j := 1) rfl, _, hB5.cell' (j := 2) rfl, _, _, _, hB5.cell' (j := 3) rfl, _, hB5.cell' (j := 4) rfl, _, _, _, hB5.cell' (j := 5) rfl, _, _, _, hB5.cell' (j := 6) rfl, ?_⟩
  have f1 : ∀ i, (Value.slice A3 k0 c3).ownBlock = some i → ¬ i = g := fun i hi => by have := (own_lt o3 hi).1; omega
  have f2 : ∀ i, (Value.slice B3 k1 d3).ownBlock = some i → ¬ i = g := fun i hi => by have := (own_lt oo3 hi).1; omega
  have f3 : ∀ i, (Value.slice D3 k2 e3).ownBlock = some i → ¬ i = g := fun i hi => by have := (own_lt ob3 hi).1; omega
  exact hK A3 c3 B3 d3 D3 e3 w5 (own_base (own_kp (own_below_kp o3 b4) k5 f1) (by omega)) (own_base (own_kp (own_below_kp oo3 b4) k5 f2) (by omega)) (own_base (own_kp (own_below_kp ob3 b4) k5 f3) (by omega)) (kp_under b4' k5 (by omega))
theorem law17_great_c (hT' : ∀ w', Below w.heap.size w w' → K (.bool true) w') (hK : ∀ w', k0 ≤ 100 → k1 ≤ 1000 → k2 ≤ 10000 → Below w.heap.size w w' → K (.bool false) w') :
    CallsE Pg law17_Image_great.N #[.agg ⟨imgC m A k0 c0 B k1 c1 D k2 c2⟩] w K := by
  refine law17_Image_great.ok (wlet_intro fun w1 e1 => ?_)
  have b1 : Below w.heap.size w w1 := by rw [e1]; exact (Below.refl _ _).alloc (Nat.le_refl _) _
  have hB1 : Blk w1 w.heap.size Ty.law17_Image (imgC m A k0 c0 B k1 c1 D k2 c2) := by rw [e1]; exact Blk.new w _ _
  clear e1
  refine ⟨_, _, _, hB1.cell' (j := 3) rfl, cond_dec (fun _ => hT' w1 b1) (fun g0 => ?_)⟩
  refine ⟨_, _, _, hB1.cell' (j := 5) rfl, cond_dec (fun _ => hT' w1 b1) (fun g1 => ?_)⟩
  refine ⟨_, _, _, hB1.cell' (j := 6) rfl, ?_⟩
  by_cases g2 : (10000 : Int) < (k2 : Int)
  · show K (.bool (decide ((10000 : Int) < (k2 : Int)))) w1
    rw [decide_eq_true g2]; exact hT' w1 b1
  · show K (.bool (decide ((10000 : Int) < (k2 : Int)))) w1
    rw [decide_eq_false g2]; exact hK w1 (by omega) (by omega) (by omega) b1
end
theorem ints_rows : ∀ {rows : List (List Value)} {w : World}, (∀ r ∈ rows, r.length = 1 ∧ RdInt .i64 w r) → ∃ l : List Int, (∀ x ∈ l, I64 x) ∧ rows.flatten = nums .i64 l ∧ rows.length = l.length
  | [], w, _ => ⟨[], fun x hx => (by cases hx), rfl, rfl⟩
  | r :: rows, w, h => by
    obtain ⟨l, h1, h2, h3⟩ := ints_rows (rows := rows) (w := w) (fun r' hr' => h r' (List.mem_cons_of_mem _ hr'))
    obtain ⟨_, n, rfl, hn⟩ := h r (by simp)
    refine ⟨n :: l, fun x hx => ?_, by rw [List.flatten_cons, h2]; rfl, by simp [h3]⟩
    rcases List.mem_cons.1 hx with rfl | hx
    · exact wf_i64 hn
    · exact h1 x hx
theorem bytes_rows : ∀ {rows : List (List Value)} {w : World}, (∀ r ∈ rows, r.length = 1 ∧ RdInt .u8 w r) → ∃ l : List Int, (∀ x ∈ l, (Lit.int .u8 x).wf = true) ∧ rows.flatten = nums .u8 l ∧ rows.length = l.length
  | [], w, _ => ⟨[], fun x hx => (by cases hx), rfl, rfl⟩
  | r :: rows, w, h => by
    obtain ⟨l, h1, h2, h3⟩ := bytes_rows (rows := rows) (w := w) (fun r' hr' => h r' (List.mem_cons_of_mem _ hr'))
    obtain ⟨_, n, rfl, hn⟩ := h r (by simp)
    refine ⟨n :: l, fun x hx => ?_, by rw [List.flatten_cons, h2]; rfl, by simp [h3]⟩
    rcases List.mem_cons.1 hx with rfl | hx
    · exact hn
    · exact h1 x hx
abbrev RdSpan := RdAgg [(1, RdInt .i64), (1, RdInt .i64), (1, RdInt .i64), (1, RdSlice 8 1 (RdInt .i64))]
abbrev RdImg := RdAgg [(4, RdSpan), (1, RdInt .i64), (1, RdSlice 8 1 (RdInt .i64)), (1, RdSlice 1 1 (RdInt .u8))]
theorem rdimg_of {w : World} {cs : List Value} (h : RdImg w cs) : ∃ (m : ImgV) (A B D : Option Addr) (k0 c0 k1 c1 k2 c2 : Nat), cs = imgC m A k0 c0 B k1 c1 D k2 c2 ∧ I64 m.pg ∧ I64 m.cl ∧ I64 m.size ∧ Cs w A (nums .i64 m.live) ∧ k0 = m.live.length ∧ (∀ x ∈ m.live, I64 x) ∧ Cs w B (nums .i64 m.offs) ∧ k1 = m.offs.length ∧ (∀ x ∈ m.offs, I64 x) ∧ Cs w D (nums .u8 m.bytes) ∧ k2 = m.bytes.length ∧ Bytes m.bytes ∧ k2 ≤ 140737488351232 := by
  obtain ⟨_, _, rfl, _, hs, _, _, rfl, _, ⟨n4, rfl, h4⟩, _, _, rfl, _, ⟨B, k1, c1, r1, rfl, b1, b2, b3, b4, b5⟩, _, _, rfl, _, ⟨D, k2, c2, r2, rfl, d1, d2, d3, d4, d5⟩, rfl⟩ := h
  obtain ⟨_, _, rfl, _, ⟨n0, rfl, h0⟩, _, _, rfl, _, ⟨n1, rfl, h1⟩, _, _, rfl, _, ⟨n2, rfl, h2⟩, _, _, rfl, _, ⟨A, k0, c0, r0, rfl, a1, a2, a3, a4, a5⟩, rfl⟩ := hs
  obtain ⟨l0, x1, x2, x3⟩ := ints_rows a5
  obtain ⟨l1, y1, y2, y3⟩ := ints_rows b5
  obtain ⟨l2, z1, z2, z3⟩ := bytes_rows d5
  exact ⟨⟨n0, n1, n2, l0, n4, l1, l2⟩, A, B, D, k0, c0, k1, c1, k2, c2, rfl, wf_i64 h0, wf_i64 h1, wf_i64 h2, by rw [x2] at a4; exact a4, by show k0 = l0.length; omega, x1, by rw [y2] at b4; exact b4, by show k1 = l1.length; omega, y1, by rw [z2] at d4; exact d4, by show k2 = l2.length; omega, bytes_wf z1, by omega⟩
theorem law_ImageWrites (w : World) (hT : Tab w) (cs0 : List Value) (h0 : RdImg w cs0) : CallsE Pg law17_ImageWrites.N #[.agg ⟨cs0⟩] w (fun v w' => v = .bool true ∧ Below w.heap.size w w') := by
  obtain ⟨m, A, B, D, k0, c0, k1, c1, k2, c2, rfl, i1, i2, i3, hx, e0, i4, hy, e1, i5, hz, e2, hbb, hl2⟩ := rdimg_of h0
  refine law17_ImageWrites.ok (wlet_intro fun w1 ew => ?_)
  have b1 : Below w.heap.size w w1 := by rw [ew]; exact (Below.refl _ _).alloc (Nat.le_refl _) _
  have hB1 : Blk w1 w.heap.size Ty.law17_Image (imgC m A k0 c0 B k1 c1 D k2 c2) := by rw [ew]; exact Blk.new w _ _
  clear ew
  have s1 := hB1.lt
  generalize hg : w.heap.size = g at hB1 ⊢
  refine law17_alive_c (hT.below b1 hT.lt) fun w2 b2 => ⟨_, rfl, condP_nt ?_⟩
  have b2' := b1.trans (b2.mono b1.size)
  have hB2 := hB1.kp (Kp.of_below b2) id
  refine ⟨_, hB2.cell' (j := 0) rfl, _, hB2.cell' (j := 1) rfl, _, hB2.cell' (j := 2) rfl, _, _, _, hB2.cell' (j := 3) rfl, _, hB2.cell' (j := 4) rfl, _, _, _, hB2.cell' (j := 5) rfl, _, _, _, hB2.cell' (j := 6) rfl, ?_⟩
  refine law17_great_c (m := m) (fun w3 b3 => ⟨_, rfl, condP_t ⟨rfl, by rw [← hg]; exact b2'.trans (b3.mono b2'.size)⟩⟩) (fun w3 n0 n1 n2 b3 => ⟨_, rfl, condP_f ?_⟩)
  have b3' := b2'.trans (b3.mono b2'.size)
  have hB3 := hB2.kp (Kp.of_below b3) id
  have tail : ∀ (w4 : World) (x3A x5A : Option Addr) (x3n x3c x5n x5c : Nat) (e : Int) (ts : List Int), Below w.heap.size w w4 → Blk w4 g Ty.law17_Image (imgC m A k0 c0 B k1 c1 D k2 c2) → Cs w4 x3A (nums .u8 ts) → Cs w4 x5A (nums .u8 ts) → x3n = ts.length → x5n = ts.length → Bytes ts → (e = if rightI m = true then 0 else 4) → (rightI m = true → ts = bodyI m) →
      law17_ImageWrites.p4 (fun v w' => v = .bool true ∧ Below g w w') ⟨g, 0, none⟩ x3A x3n x3c e x5A x5n x5c e w4 := fun w4 x3A x5A x3n x3c x5n x5c e ts b4 hB4 t3 t5 l3 l5 hts he hok => by
    have hold : ∀ w', Below w4.heap.size w4 w' → Ho (some ⟨g, 0, none⟩) (imgC m A k0 c0 B k1 c1 D k2 c2) w'.heap := fun w' b' => Ho.of ((Cs.of_blk0 hB4).below b')
    have r0 := Below.refl w4.heap.size w4
    refine ⟨Ho (some ⟨g, 0, none⟩) (imgC m A k0 c0 B k1 c1 D k2 c2), hold w4 r0, ?_⟩
    refine cond_ne (fun h => absurd rfl h) (fun _ => ?_)
    refine ref01_Same_c t3 t5 l3 l5 hts ⟨_, rfl, hold w4 r0, condP_f ?_⟩
    refine ⟨_, fun w' h => cs_rd (h w' rfl) (j := 0) rfl, _, fun w' h => cs_rd (h w' rfl) (j := 1) rfl, _, fun w' h => cs_rd (h w' rfl) (j := 2) rfl, _, _, _, fun w' h => cs_rd (h w' rfl) (j := 3) rfl, _, fun w' h => cs_rd (h w' rfl) (j := 4) rfl, _, _, _, fun w' h => cs_rd (h w' rfl) (j := 5) rfl, _, _, _, fun w' h => cs_rd (h w' rfl) (j := 6) rfl, ?_⟩
    refine ⟨_, fun w' h => cs_rd (h w' rfl) (j := 0) rfl, _, fun w' h => cs_rd (h w' rfl) (j := 1) rfl, _, fun w' h => cs_rd (h w' rfl) (j := 2) rfl, _, _, _, fun w' h => cs_rd (h w' rfl) (j := 3) rfl, _, fun w' h => cs_rd (h w' rfl) (j := 4) rfl, _, _, _, fun w' h => cs_rd (h w' rfl) (j := 5) rfl, _, _, _, fun w' h => cs_rd (h w' rfl) (j := 6) rfl, ?_⟩
    refine law17_theirs_c (m := m) (hx.below b4) e0 (by omega) (hy.below b4) e1 (by omega) (hz.below b4) e2 (by omega) fun A5 c5 B5 d5 D5 f5 w5 o5 oo5 ob5 b5 => ⟨_, _, _, _, _, _, _, _, _, _, _, _, _, rfl, hold w5 b5, ?_⟩
    have b5' := b4.trans (b5.mono b4.size)
    refine image_Right_c (bytes := m.bytes) i1 i2 i3 (Cs.ofOwn o5) e0 (by omega) i4 (Cs.ofOwn oo5) e1 i5 e2 (by omega) fun w6 b6 => ⟨_, rfl, hold w6 (b5.trans (b6.mono b5.size)), ?_⟩
    have b6' := b5'.trans (b6.mono b5'.size)
    have b46 := b5.trans (b6.mono b5.size)
    refine law17_ref_c (m := m) (hx.below b6') e0 (by omega) (hy.below b6') e1 (by omega) (hz.below b6') e2 (by omega) fun A7 c7 B7 d7 D7 f7 w7 o7 oo7 ob7 b7 => ⟨_, _, _, _, _, _, _, _, _, _, _, _, _, rfl, hold w7 (b46.trans (b7.mono b46.size)), ?_⟩
    have b7' := b6'.trans (b7.mono b6'.size)
    have b47 := b46.trans (b7.mono b46.size)
    refine ref17_Right_c (bytes := m.bytes) i1 i2 i3 (Cs.ofOwn o7) e0 (by omega) i4 (Cs.ofOwn oo7) e1 i5 e2 (by omega) fun w8 b8 => ⟨_, rfl, hold w8 (b47.trans (b8.mono b47.size)), ?_⟩
    have b8' := b7'.trans (b8.mono b7'.size)
    have b48 := b47.trans (b8.mono b47.size)
    rw [beq_self_eq_true]
    refine condP_f ?_
    refine ⟨_, fun w' h => cs_rd (h w' rfl) (j := 0) rfl, _, fun w' h => cs_rd (h w' rfl) (j := 1) rfl, _, fun w' h => cs_rd (h w' rfl) (j := 2) rfl, _, _, _, fun w' h => cs_rd (h w' rfl) (j := 3) rfl, _, fun w' h => cs_rd (h w' rfl) (j := 0) rfl, _, fun w' h => cs_rd (h w' rfl) (j := 1) rfl, _, fun w' h => cs_rd (h w' rfl) (j := 2) rfl, _, _, _, fun w' h => cs_rd (h w' rfl) (j := 3) rfl, ?_⟩
    refine image_Size_c i1 i2 i3 (hx.below b8') e0 (by omega) i4 fun w9 b9 => ⟨_, rfl, hold w9 (b48.trans (b9.mono b48.size)), ?_⟩
    have b9' := b8'.trans (b9.mono b8'.size)
    have b49 := b48.trans (b9.mono b48.size)
    refine ref17_Size_c i1 i2 i3 (hx.below b9') e0 (by omega) i4 fun w10 b10 => ⟨_, rfl, hold w10 (b49.trans (b10.mono b49.size)), ?_⟩
    have b10' := b9'.trans (b10.mono b9'.size)
    have b410 := b49.trans (b10.mono b49.size)
    have hB10 := hB4.kp (Kp.of_below b410) id
    have z1 : ((sizeI m.pg m.cl m.size m.live) != (sizeI m.pg m.cl m.size m.live)) = false := by simp
    rw [z1]
    refine condP_f (cond_ne (fun _ => ⟨rfl, hg ▸ b10'⟩) (fun hne => ?_))
    cases hr : rightI m with
    | false => rw [hr, if_neg (by decide)] at he; omega
    | true =>
      have hts2 := hok hr
      obtain ⟨hE, hR⟩ := read_back hr
      have hbl := bodyI_len hr
      refine image_Read_c (bs := ts) (t3.below b410) l3 hts (by rw [l3, hts2]; omega) (hT.below b10' hT.lt) fun A11 m11 c11 B11 mo11 co11 D11 mb11 cb11 w11 hm11 hmo11 hmb11 o11 oo11 ob11 b11 => ⟨_, _, _, _, _, _, _, _, _, _, _, _, _, _, rfl, ?_⟩
      rw [hts2, hR] at hm11 hmo11 hmb11 o11 oo11 ob11 ⊢
      rw [hE]
      have b11' := b10'.trans (b11.mono b10'.size)
      refine st_img (fun w12 hB12 b12 => ?_) rfl
      have b12' := b11'.trans (b12.mono b11'.size)
      have hB112 := (hB10.kp (Kp.of_below b11) id).kp (Kp.of_below b12) id
      have hB12 : Blk w12 w11.heap.size Ty.image_Image (imgC m A11 m11 c11 B11 mo11 co11 D11 mb11 cb11) := hB12
      generalize w11.heap.size = g2 at hB12 ⊢
      have hold2 : ∀ w', Below w12.heap.size w12 w' → Ho (some ⟨g2, 0, none⟩) (imgC m A11 m11 c11 B11 mo11 co11 D11 mb11 cb11) w'.heap ∧ Ho (some ⟨g, 0, none⟩) (imgC m A k0 c0 B k1 c1 D k2 c2) w'.heap := fun w' b' => ⟨Ho.of ((Cs.of_blk0 hB12).below b'), Ho.of ((Cs.of_blk0 hB112).below b')⟩
      refine ⟨fun H => Ho (some ⟨g2, 0, none⟩) (imgC m A11 m11 c11 B11 mo11 co11 D11 mb11 cb11) H ∧ Ho (some ⟨g, 0, none⟩) (imgC m A k0 c0 B k1 c1 D k2 c2) H, hold2 w12 (Below.refl _ _), cond_eq (fun _ => ?_) (fun h => absurd rfl h)⟩
      refine ⟨_, fun w' h => cs_rd (h.1 w' rfl) (j := 0) rfl, _, fun w' h => cs_rd (h.1 w' rfl) (j := 1) rfl, _, fun w' h => cs_rd (h.1 w' rfl) (j := 2) rfl, _, _, _, fun w' h => cs_rd (h.1 w' rfl) (j := 3) rfl, _, fun w' h => cs_rd (h.1 w' rfl) (j := 4) rfl, _, _, _, fun w' h => cs_rd (h.1 w' rfl) (j := 5) rfl, _, _, _, fun w' h => cs_rd (h.1 w' rfl) (j := 6) rfl, ?_⟩
      refine ⟨_, fun w' h => cs_rd (h.2 w' rfl) (j := 0) rfl, _, fun w' h => cs_rd (h.2 w' rfl) (j := 1) rfl, _, fun w' h => cs_rd (h.2 w' rfl) (j := 2) rfl, _, _, _, fun w' h => cs_rd (h.2 w' rfl) (j := 3) rfl, _, fun w' h => cs_rd (h.2 w' rfl) (j := 4) rfl, _, _, _, fun w' h => cs_rd (h.2 w' rfl) (j := 5) rfl, _, _, _, fun w' h => cs_rd (h.2 w' rfl) (j := 6) rfl, ?_⟩
      refine law17_own_c (m := m) fun w13 b13 => ⟨_, _, _, _, _, _, _, _, _, _, _, _, _, rfl, hold2 w13 b13, ?_⟩
      have b13' := b12'.trans (b13.mono b12'.size)
      refine law17_ref_c (m := m) (hx.below b13') e0 (by omega) (hy.below b13') e1 (by omega) (hz.below b13') e2 (by omega) fun A14 c14 B14 d14 D14 f14 w14 o14 oo14 ob14 b14 => ⟨_, _, _, _, _, _, _, _, _, _, _, _, _, rfl, hold2 w14 (b13.trans (b14.mono b13.size)), ?_⟩
      have b14' := b13'.trans (b14.mono b13'.size)
      refine ref17_Same_c (m := m) (Cs.ofOwn (own_below_kp (own_below_kp (own_below_kp o11 b12) b13) b14)) (Cs.ofOwn o14) hm11 e0 (by omega) (Cs.ofOwn (own_below_kp (own_below_kp (own_below_kp oo11 b12) b13) b14)) (Cs.ofOwn oo14) hmo11 e1 (by omega) (Cs.ofOwn (own_below_kp (own_below_kp (own_below_kp ob11 b12) b13) b14)) (Cs.ofOwn ob14) hmb11 e2 hbb fun w15 b15 => ⟨_, rfl, hold2 w15 ((b13.trans (b14.mono b13.size)).trans (b15.mono (b13.trans (b14.mono b13.size)).size)), ?_⟩
      exact ⟨rfl, hg ▸ b14'.trans (b15.mono b14'.size)⟩
  refine ⟨_, hB3.cell' (j := 0) rfl, _, hB3.cell' (j := 1) rfl, _, hB3.cell' (j := 2) rfl, _, _, _, hB3.cell' (j := 3) rfl, _, hB3.cell' (j := 4) rfl, _, _, _, hB3.cell' (j := 5) rfl, _, _, _, hB3.cell' (j := 6) rfl, ?_⟩
  refine law17_theirs_c (m := m) (hx.below b3') e0 (by omega) (hy.below b3') e1 (by omega) (hz.below b3') e2 (by omega) fun A4 c4 B4 d4 D4 f4 w4 o4 oo4 ob4 b4 => ⟨_, _, _, _, _, _, _, _, _, _, _, _, _, rfl, ?_⟩
  have b4' := b3'.trans (b4.mono b3'.size)
  have hB4 := hB3.kp (Kp.of_below b4) id
  cases hr : rightI m with
  | false =>
    refine image_Body_c (m := m) i1 i2 i3 (Cs.ofOwn o4) e0 (by omega) i4 (Cs.ofOwn oo4) e1 i5 (Cs.ofOwn ob4) e2 (by omega) (fun w5 _ b5 => ⟨_, _, _, _, rfl, ?_⟩) (fun h => by rw [hr] at h; cases h)
    have b5' := b4'.trans (b5.mono b4'.size)
    have hB5 := hB4.kp (Kp.of_below b5) id
    refine ⟨_, hB5.cell' (j := 0) rfl, _, hB5.cell' (j := 1) rfl, _, hB5.cell' (j := 2) rfl, _, _, _, hB5.cell' (j := 3) rfl, _, hB5.cell' (j := 4) rfl, _, _, _, hB5.cell' (j := 5) rfl, _, _, _, hB5.cell' (j := 6) rfl, ?_⟩
    refine law17_ref_c (m := m) (hx.below b5') e0 (by omega) (hy.below b5') e1 (by omega) (hz.below b5') e2 (by omega) fun A6 c6 B6 d6 D6 f6 w6 o6 oo6 ob6 b6 => ⟨_, _, _, _, _, _, _, _, _, _, _, _, _, rfl, ?_⟩
    have b6' := b5'.trans (b6.mono b5'.size)
    have hB6 := hB5.kp (Kp.of_below b6) id
    refine ref17_Body_c (m := m) i1 i2 i3 (Cs.ofOwn o6) e0 (by omega) i4 (Cs.ofOwn oo6) e1 i5 (Cs.ofOwn ob6) e2 (by omega) (fun w7 _ b7 => ⟨_, _, _, _, rfl, ?_⟩) (fun h => by rw [hr] at h; cases h)
    have b7' := b6'.trans (b7.mono b6'.size)
    exact tail w7 none none 0 0 0 0 4 [] b7' (hB6.kp (Kp.of_below b7) id) (Cs.nil _ _) (Cs.nil _ _) rfl rfl (fun x hx => by cases hx) (by rw [hr]; rfl) (fun h => by rw [hr] at h; cases h)
  | true =>
    refine image_Body_c (m := m) i1 i2 i3 (Cs.ofOwn o4) e0 (by omega) i4 (Cs.ofOwn oo4) e1 i5 (Cs.ofOwn ob4) e2 (by omega) (fun w5 h _ => by rw [hr] at h; cases h) (fun _ A5 c5 w5 o5 b5 => ⟨_, _, _, _, rfl, ?_⟩)
    have b5' := b4'.trans (b5.mono b4'.size)
    have hB5 := hB4.kp (Kp.of_below b5) id
    refine ⟨_, hB5.cell' (j := 0) rfl, _, hB5.cell' (j := 1) rfl, _, hB5.cell' (j := 2) rfl, _, _, _, hB5.cell' (j := 3) rfl, _, hB5.cell' (j := 4) rfl, _, _, _, hB5.cell' (j := 5) rfl, _, _, _, hB5.cell' (j := 6) rfl, ?_⟩
    refine law17_ref_c (m := m) (hx.below b5') e0 (by omega) (hy.below b5') e1 (by omega) (hz.below b5') e2 (by omega) fun A6 c6 B6 d6 D6 f6 w6 o6 oo6 ob6 b6 => ⟨_, _, _, _, _, _, _, _, _, _, _, _, _, rfl, ?_⟩
    have b6' := b5'.trans (b6.mono b5'.size)
    have hB6 := hB5.kp (Kp.of_below b6) id
    refine ref17_Body_c (m := m) i1 i2 i3 (Cs.ofOwn o6) e0 (by omega) i4 (Cs.ofOwn oo6) e1 i5 (Cs.ofOwn ob6) e2 (by omega) (fun w7 h _ => by rw [hr] at h; cases h) (fun _ A7 c7 w7 o7 b7 => ⟨_, _, _, _, rfl, ?_⟩)
    have b7' := b6'.trans (b7.mono b6'.size)
    exact tail w7 A5 A7 _ c5 _ c7 0 (bodyI m) b7' (hB6.kp (Kp.of_below b7) id) (Cs.ofOwn (own_below_kp (own_below_kp o5 b6) b7)) (Cs.ofOwn o7) rfl rfl (bodyI_bytes hr hbb) (by rw [hr]; rfl) (fun _ => rfl)

end Go.Proofs.YtogmnhdadggnbaaDoor.C
