/-
  Parts of the proofs of this seat: what the functions compute. No condition beyond what each theorem states.
-/
import Derived.Test.YtogmnhdadggnbaaDoorF
import Derived.Test.YtogmnhdadggnbaaDoorRK
import Derived.Test.YtogmnhdadggnbaaDoorA
import Derived.Test.YtogmnhdadggnbaaDoorB
import Derived.Test.YtogmnhdadggnbaaDoorC
import Derived.Test.YtogmnhdadggnbaaDoorD
import Derived.Test.YtogmnhdadggnbaaDoorE
import Derived.Test.YtogmnhdadggnbaaDoorG
import Derived.Test.YtogmnhdadggnbaaDoorH
import Derived.Test.YtogmnhdadggnbaaDoorI
import Derived.Test.YtogmnhdadggnbaaDoorJ
import Derived.Test.YtogmnhdadggnbaaDoorK
import Derived.Test.YtogmnhdadggnbaaDoorL
set_option linter.unusedVariables false
set_option linter.unusedSimpArgs false
set_option maxRecDepth 100000
namespace Go.Proofs.YtogmnhdadggnbaaDoor.C
open Go Go.RowKit Go.Proofs.YtogmnhdadggnbaaDoor Go.Proofs.YtogmnhdadggnbaaDoor.Sh Go.Proofs.YtogmnhdadggnbaaDoor.F Go.Proofs.YtogmnhdadggnbaaDoor.R

/-! ### ImageReads, ImageOne -/
section
variable {w0 : World} {K : Value → World → Prop}
theorem st_img {w : World} {ty : TypeId} {vs : List Value} {v0 v1 v2 v3 v4 v5 v6 : Value} {Q : World → Prop}
    (hQ : ∀ w', Blk w' w.heap.size ty [v0, v1, v2, v3, v4, v5, v6] → Below w.heap.size w w' → Q w') (hvs : vs.length = 7) :
    wlet (w.alloc (.cells ⟨vs⟩ ty)) fun w1 => canStore w1 ⟨w.heap.size, 0, none⟩ ∧ wlet (w1.setCell ⟨w.heap.size, 0, none⟩ v0) fun w2 => canStore w2 ⟨w.heap.size, 1, none⟩ ∧ wlet (w2.setCell ⟨w.heap.size, 1, none⟩ v1) fun w3 => canStore w3 ⟨w.heap.size, 2, none⟩ ∧ wlet (w3.setCell ⟨w.heap.size, 2, none⟩ v2) fun w4 => canStore w4 ⟨w.heap.size, 3, none⟩ ∧ wlet (w4.setCell ⟨w.heap.size, 3, none⟩ v3) fun w5 => canStore w5 ⟨w.heap.size, 4, none⟩ ∧ wlet (w5.setCell ⟨w.heap.size, 4, none⟩ v4) fun w6 => canStore w6 ⟨w.heap.size, 5, none⟩ ∧ wlet (w6.setCell ⟨w.heap.size, 5, none⟩ v5) fun w7 => canStore w7 ⟨w.heap.size, 6, none⟩ ∧ wlet (w7.setCell ⟨w.heap.size, 6, none⟩ v6) Q := by
  match vs, hvs with
  | [a0, a1, a2, a3, a4, a5, a6], _ =>
    refine wlet_intro fun w1 e1 => ?_
    have b1 : Below w.heap.size w w1 := by rw [e1]; exact (Below.refl _ _).alloc (Nat.le_refl _) _
    have hB1 : Blk w1 w.heap.size ty [a0, a1, a2, a3, a4, a5, a6] := by rw [e1]; exact Blk.new w _ _
    clear e1
    exact st7 hB1 fun w2 hB2 k2 _ => hQ w2 hB2 (b1.trans (k2.below b1.size fun i hi e => by omega))
theorem reads_tail {A A2 : Option Addr} {n c c2 : Nat} {bs : List Int} (hbb : Bytes bs) (hx : Cs w0 A (nums .u8 bs)) (hn : n = bs.length) {g : Nat} {vs : List Value} {D : Option Addr} {mb cb : Nat} (hv : vs[6]? = some (.slice D mb cb)) (hg0 : w0.heap.size ≤ g) {b : Nat} (hb0 : w0.heap.size ≤ b) (hgb : ∀ i, (Value.slice D mb cb).ownBlock = some i → ¬ i = g ∧ ¬ A2.map (·.block) = some i)
    (hmb : mb ≤ 1000000000000000) (hK : ∀ w', Below w0.heap.size w0 w' → K (.bool true) w') :
    ∀ (d i : Nat) (w : World) (ds : List Int), i + d = mb → ds.length = mb → w.ownsRow b Ty.uint8 1 (.slice D mb cb) mb (nums .u8 ds) → Blk w g Ty.image_Image vs → Cs w A2 (nums .u8 bs) → Below w0.heap.size w0 w → law17_ImageReads.l0 K (d + 1) A n c A2 n c2 ⟨g, 0, none⟩ mb (i : Int) w := by
  intro d
  induction d with
  | zero =>
    intro i w ds hi hl o hB hx2 bw
    rw [law17_ImageReads.l0_succ]
    refine cond_dec (fun h => absurd h (by omega)) (fun _ => ?_)
    exact ref01_Same_c hx2 (hx.below bw) hn hn hbb ⟨_, rfl, hK w bw⟩
  | succ d ih =>
    intro i w ds hi hl o hB hx2 bw
    rw [law17_ImageReads.l0_succ]
    refine cond_dec (fun _ => ?_) (fun h => absurd (by omega) h)
    have hlt : i < ds.length := by omega
    have hxk : ds[i]? = some ds[i] := List.getElem?_eq_getElem hlt
    obtain ⟨a, rfl, hc⟩ := (Cs.ofOwn o).at (nums_at hxk)
    refine ⟨fun H => H = w.heap, rfl, _, _, _, fun w' e => held (hB.cell' hv) w' e, _, _, _, fun w' e => held (hB.cell' hv) w' e, ⟨by omega, by omega⟩, a, rfl, _, fun w' e => held (by rw [Int.toNat_natCast]; exact hc) w' e, ⟨by omega, by omega⟩, a, rfl, ?_⟩
    rw [Int.toNat_natCast]
    have hg := hgb a.block rfl
    refine own_set1 (k := i) o (by rw [nums_len]; exact hlt) fun w1 o1 k1 _ => ?_
    have bw1 := kp_under bw k1 (fun j e => by subst e; have := (own_lt o (g := a.block) rfl).1; omega)
    rw [nums_set] at o1
    show law17_ImageReads.l0 K (d + 1) A n c A2 n c2 ⟨g, 0, none⟩ mb (IntKind.wrap .i64 ((i : Int) + 1)) w1
    rw [cst i (by omega)]
    exact ih (i + 1) w1 _ (by omega) (by simpa using hl) o1 (hB.kp k1 (fun e => hg.1 e.symm)) (hx2.kp k1 (fun a' ha' e => hg.2 (by rw [ha', ← e]; rfl))) bw1
end
theorem ires_ok {bs : List Int} (hb : Bytes bs) : Bytes (iRes bs).bytes ∧ (iRes bs).live.length ≤ 16 ∧ (iRes bs).offs.length ≤ 8192 ∧ (iRes bs).bytes.length ≤ 4096 := by
  by_cases h : iErr bs = 0
  · obtain ⟨h1, h2⟩ := read_one hb h
    have ok := img_ok h1
    have hs := clsSlots_le (iRes bs).cl
    have hl := (setL_cnt ok.rise).2
    refine ⟨fun x hx => hb x ?_, by omega, right_len ok.tab, ok.small⟩
    rw [← h2]
    unfold bodyI
    exact List.mem_append.2 (.inr hx)
  · have : iRes bs = img0 := by unfold iRes; rw [if_pos h]
    rw [this]
    exact ⟨fun x hx => (by cases hx), by decide, by decide, by decide⟩
theorem law_ImageReads (w : World) (hT : Tab w) (A : Option Addr) (n c : Nat) (bs : List Int) (hx : Cs w A (nums .u8 bs)) (hn : n = bs.length) (hw : ∀ x ∈ bs, (Lit.int .u8 x).wf = true) (hyl : n * 1 ≤ 140737488351232) (hc : n ≤ c) :
    CallsE Pg law17_ImageReads.N #[.slice A n c] w (fun v w' => v = .bool true ∧ Below w.heap.size w w') := by
  have hb := bytes_wf hw
  obtain ⟨q1, q2, q3, q4⟩ := ires_ok hb
  refine law17_ImageReads.ok (law17_alive_c hT fun w1 b1 => ⟨_, rfl, condP_nt ?_⟩)
  refine ref01_Copy_c (hx.below b1) hn (by omega) fun A2 c2 w2 o2 b2 => ⟨_, _, _, rfl, ?_⟩
  have b2' := b1.trans (b2.mono b1.size)
  refine image_Read_c (Cs.ofOwn o2) hn hb (by omega) (hT.below b2' hT.lt) fun A3 m3 c3 B3 mo3 co3 D3 mb3 cb3 w3 hm3 hmo3 hmb3 o3 oo3 ob3 b3 => ⟨_, _, _, _, _, _, _, _, _, _, _, _, _, _, rfl, ?_⟩
  have b3' := b2'.trans (b3.mono b2'.size)
  refine st_img (fun w4 hB4 b4 => ?_) rfl
  have b4' := b3'.trans (b4.mono b3'.size)
  refine ref17_Read_c (hx.below b4') hn hb (by omega) fun A5 m5 c5 B5 mo5 co5 D5 mb5 cb5 w5 hm5 hmo5 hmb5 o5 oo5 ob5 b5 => ⟨_, _, _, _, _, _, _, _, _, _, _, _, _, _, rfl, ?_⟩
  have b5' := b4'.trans (b5.mono b4'.size)
  refine st_img (fun w6 hB6 b6 => ?_) rfl
  have b6' := b5'.trans (b6.mono b5'.size)
  have hB46 := (hB4.kp (Kp.of_below b5) id).kp (Kp.of_below b6) id
  have x3 := ((Cs.ofOwn o3).below b4).below b5 |>.below b6
  have y3 := ((Cs.ofOwn oo3).below b4).below b5 |>.below b6
  have ob36 := own_below_kp (own_below_kp (own_below_kp ob3 b4) b5) b6
  have x5 := (Cs.ofOwn o5).below b6
  have y5 := (Cs.ofOwn oo5).below b6
  have z5 := (Cs.ofOwn ob5).below b6
  have in6 := ((((Cs.ofOwn o2).below b3).below b4).below b5).below b6
  have l3 : ∀ i, (Value.slice D3 mb3 cb3).ownBlock = some i → ¬ i = w3.heap.size ∧ ¬ A2.map (·.block) = some i := fun i hi => by
    have := own_lt ob3 hi
    refine ⟨by omega, fun e => ?_⟩
    have := (own_lt o2 (g := i) (by cases A2 with | none => cases e | some a => exact e)).2
    omega
  have s3 := b3'.size
  have s2 := b2'.size
  generalize w3.heap.size = g1 at hB46 l3 s3 ⊢
  generalize w5.heap.size = g2 at hB6 ⊢
  have bl : ∀ {w' : World} {g : Nat} {ty : TypeId} {vs : List Value}, w'.heap[g]? = some (.cells ⟨vs⟩ ty (0, 0)) → ∀ {j : Nat} {v : Value}, vs[j]? = some v → w'.cell? ⟨g, j, none⟩ = some v := fun {w' g ty vs} h {j v} hv => Blk.cell' (show Blk w' g ty vs from h) hv
  refine ⟨fun H => H[g1]? = some (.cells ⟨imgC (iRes bs) A3 m3 c3 B3 mo3 co3 D3 mb3 cb3⟩ Ty.image_Image (0, 0)) ∧ H[g2]? = some (.cells ⟨imgC (iRes bs) A5 m5 c5 B5 mo5 co5 D5 mb5 cb5⟩ Ty.ref17_Image (0, 0)), ⟨hB46, hB6⟩, ?_⟩
  refine cond_ne (fun h => absurd rfl h) (fun _ => ?_)
  refine ⟨_, fun _ h => bl h.1 (j := 0) rfl, _, fun _ h => bl h.1 (j := 1) rfl, _, fun _ h => bl h.1 (j := 2) rfl, _, _, _, fun _ h => bl h.1 (j := 3) rfl, _, fun _ h => bl h.1 (j := 4) rfl, _, _, _, fun _ h => bl h.1 (j := 5) rfl, _, _, _, fun _ h => bl h.1 (j := 6) rfl, ?_⟩
  refine ⟨_, fun _ h => bl h.2 (j := 0) rfl, _, fun _ h => bl h.2 (j := 1) rfl, _, fun _ h => bl h.2 (j := 2) rfl, _, _, _, fun _ h => bl h.2 (j := 3) rfl, _, fun _ h => bl h.2 (j := 4) rfl, _, _, _, fun _ h => bl h.2 (j := 5) rfl, _, _, _, fun _ h => bl h.2 (j := 6) rfl, ?_⟩
  refine law17_own_c (m := iRes bs) fun w7 b7 => ⟨_, _, _, _, _, _, _, _, _, _, _, _, _, rfl, ⟨hB46.kp (Kp.of_below b7) id, hB6.kp (Kp.of_below b7) id⟩, ?_⟩
  have b7' := b6'.trans (b7.mono b6'.size)
  refine ref17_Same_c (m := iRes bs) (x3.below b7) (x5.below b7) hm3 hm5 (by omega) (y3.below b7) (y5.below b7) hmo3 hmo5 (by omega) ((Cs.ofOwn ob36).below b7) (z5.below b7) hmb3 hmb5 q1 fun w8 b8 => ⟨_, rfl, ⟨(hB46.kp (Kp.of_below b7) id).kp (Kp.of_below b8) id, (hB6.kp (Kp.of_below b7) id).kp (Kp.of_below b8) id⟩, condP_f ?_⟩
  have b8' := b7'.trans (b8.mono b7'.size)
  have hB48 := (hB46.kp (Kp.of_below b7) id).kp (Kp.of_below b8) id
  refine ⟨_, _, _, hB48.cell' (j := 6) rfl, mb3 + 1, ?_⟩
  exact reads_tail (b := w2.heap.size) hb hx hn rfl s3 s2 l3 (by omega) (fun w' b' => ⟨rfl, b'⟩) mb3 0 w8 _ (by omega) hmb3.symm (own_below_kp (own_below_kp ob36 b7) b8) hB48 ((in6.below b7).below b8) b8'
theorem law_ImageOne (w : World) (hT : Tab w) (A : Option Addr) (n c : Nat) (bs : List Int) (hx : Cs w A (nums .u8 bs)) (hn : n = bs.length) (hw : ∀ x ∈ bs, (Lit.int .u8 x).wf = true) (hyl : n * 1 ≤ 140737488351232) (hc : n ≤ c) :
    CallsE Pg law17_ImageOne.N #[.slice A n c] w (fun v w' => v = .bool true ∧ Below w.heap.size w w') := by
  have hb := bytes_wf hw
  obtain ⟨q1, q2, q3, q4⟩ := ires_ok hb
  refine law17_ImageOne.ok (law17_alive_c hT fun w1 b1 => ⟨_, rfl, condP_nt ?_⟩)
  refine cond_dec (fun _ => ⟨rfl, b1⟩) (fun _ => ?_)
  refine image_Read_c (hx.below b1) hn hb (by omega) (hT.below b1 hT.lt) fun A3 m3 c3 B3 mo3 co3 D3 mb3 cb3 w3 hm3 hmo3 hmb3 o3 oo3 ob3 b3 => ⟨_, _, _, _, _, _, _, _, _, _, _, _, _, _, rfl, ?_⟩
  have b3' := b1.trans (b3.mono b1.size)
  refine st_img (fun w4 hB4 b4 => ?_) rfl
  have b4' := b3'.trans (b4.mono b3'.size)
  have x4 := (Cs.ofOwn o3).below b4
  have y4 := (Cs.ofOwn oo3).below b4
  have z4 := (Cs.ofOwn ob3).below b4
  generalize w3.heap.size = g1 at hB4 ⊢
  by_cases he : iErr bs = 0
  · obtain ⟨h1, h2⟩ := read_one hb he
    have ok := img_ok h1
    generalize iRes bs = V at *
    rw [he]
    refine condP_f ?_
    obtain ⟨n1, n2, n3, n4, n5, n6, n7, n8, _⟩ := new_ok ok.new
    obtain ⟨z1, z2, _⟩ := new_size ok.new
    have hll := rise_all V.live (-1) ok.rise
    have hsl := clsSlots_le V.cl
    have i1 : I64 V.pg := ⟨by omega, by omega⟩
    have i2 : I64 V.cl := ⟨by omega, by omega⟩
    have i3 : I64 V.size := ⟨by omega, by omega⟩
    have i4 : ∀ x ∈ V.live, I64 x := fun x hx => by have := hll x hx; exact ⟨by omega, by omega⟩
    have i5 := right_I ok.tab
    have hB4 : Blk w4 g1 Ty.image_Image (imgC V A3 m3 c3 B3 mo3 co3 D3 mb3 cb3) := hB4
    refine ⟨_, hB4.cell' (j := 0) rfl, _, hB4.cell' (j := 1) rfl, _, hB4.cell' (j := 2) rfl, _, _, _, hB4.cell' (j := 3) rfl, _, hB4.cell' (j := 4) rfl, _, _, _, hB4.cell' (j := 5) rfl, _, _, _, hB4.cell' (j := 6) rfl, ?_⟩
    refine image_Body_c (m := V) i1 i2 i3 x4 hm3 (by omega) i4 y4 hmo3 i5 z4 hmb3 (by omega) (fun w' h' => absurd h1 (by rw [h']; decide)) fun _ A5 c5 w5 o5 b5 => ⟨_, _, _, _, rfl, ?_⟩
    have b5' := b4'.trans (b5.mono b4'.size)
    have hB5 := hB4.kp (Kp.of_below b5) id
    have bl : ∀ {w' : World}, w'.heap[g1]? = some (.cells ⟨imgC V A3 m3 c3 B3 mo3 co3 D3 mb3 cb3⟩ Ty.image_Image (0, 0)) → ∀ {j : Nat} {v : Value}, (imgC V A3 m3 c3 B3 mo3 co3 D3 mb3 cb3)[j]? = some v → w'.cell? ⟨g1, j, none⟩ = some v := fun {w'} h {j v} hv => Blk.cell' (show Blk w' g1 Ty.image_Image _ from h) hv
    refine ⟨fun H => H[g1]? = some (.cells ⟨imgC V A3 m3 c3 B3 mo3 co3 D3 mb3 cb3⟩ Ty.image_Image (0, 0)), hB5, cond_eq (fun _ => ?_) (fun h => absurd rfl h)⟩
    refine ⟨_, fun _ h => bl h (j := 0) rfl, _, fun _ h => bl h (j := 1) rfl, _, fun _ h => bl h (j := 2) rfl, _, _, _, fun _ h => bl h (j := 3) rfl, _, fun _ h => bl h (j := 4) rfl, _, _, _, fun _ h => bl h (j := 5) rfl, _, _, _, fun _ h => bl h (j := 6) rfl, ?_⟩
    refine image_Right_c (bytes := V.bytes) i1 i2 i3 (x4.below b5) hm3 (by omega) i4 (y4.below b5) hmo3 i5 hmb3 (by omega) fun w6 b6 => ⟨_, rfl, hB5.kp (Kp.of_below b6) id, ?_⟩
    have b6' := b5'.trans (b6.mono b5'.size)
    have hB6 := hB5.kp (Kp.of_below b6) id
    have er : rightI ⟨V.pg, V.cl, V.size, V.live, V.base, V.offs, V.bytes⟩ = true := h1
    rw [er]
    refine condP_t ⟨_, _, _, fun _ h => bl h (j := 6) rfl, _, fun _ h => bl h (j := 0) rfl, _, fun _ h => bl h (j := 1) rfl, _, fun _ h => bl h (j := 2) rfl, _, _, _, fun _ h => bl h (j := 3) rfl, ?_⟩
    refine image_Size_c i1 i2 i3 ((x4.below b5).below b6) hm3 (by omega) i4 fun w7 b7 => ⟨_, rfl, hB6.kp (Kp.of_below b7) id, ?_⟩
    have b7' := b6'.trans (b7.mono b6'.size)
    have hlen := ok.len
    refine cond_eq (fun _ => ?_) (fun h => absurd (by omega) h)
    refine ref01_Same_c (xs := bs) (by rw [← h2]; exact Cs.ofOwn (own_below_kp (own_below_kp o5 b6) b7)) (hx.below b7') (by rw [h2]) hn hb ⟨_, rfl, hB6.kp (Kp.of_below b7) id, rfl, b7'⟩
  · have e0 : iRes bs = img0 := by unfold iRes; rw [if_pos he]
    rw [e0] at hB4 hm3 hmo3 hmb3
    refine cond_ne (fun _ => ?_) (fun h => absurd h he)
    have hmo : mo3 = 0 := hmo3
    have hmb : mb3 = 0 := hmb3
    refine ⟨_, hB4.cell' (j := 4) rfl, cond_eq (fun _ => ?_) (fun h => absurd rfl h)⟩
    refine ⟨_, _, _, hB4.cell' (j := 5) rfl, cond_eq (fun _ => ?_) (fun h => absurd (by omega) h)⟩
    refine ⟨_, _, _, hB4.cell' (j := 6) rfl, ?_⟩
    rw [hmb]
    exact ⟨rfl, b4'⟩

end Go.Proofs.YtogmnhdadggnbaaDoor.C
