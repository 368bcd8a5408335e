/-
  Parts of the proofs of this seat: what the functions compute. No condition beyond what each theorem states.
-/
import Derived.Test.YtogmnhdadggnbaaDoorF
import Derived.Test.YtogmnhdadggnbaaDoorRK
import Derived.Test.YtogmnhdadggnbaaDoorA
import Derived.Test.YtogmnhdadggnbaaDoorB
import Derived.Test.YtogmnhdadggnbaaDoorC
import Derived.Test.YtogmnhdadggnbaaDoorD
import Derived.Test.YtogmnhdadggnbaaDoorE
import Derived.Test.YtogmnhdadggnbaaDoorG
import Derived.Test.YtogmnhdadggnbaaDoorH
import Derived.Test.YtogmnhdadggnbaaDoorI
import Derived.Test.YtogmnhdadggnbaaDoorJ
import Derived.Test.YtogmnhdadggnbaaDoorK
import Derived.Test.YtogmnhdadggnbaaDoorL
import Derived.Test.YtogmnhdadggnbaaDoorM
set_option linter.unusedVariables false
set_option linter.unusedSimpArgs false
set_option maxRecDepth 100000
namespace Go.Proofs.YtogmnhdadggnbaaDoor.C
open Go Go.RowKit Go.Proofs.YtogmnhdadggnbaaDoor Go.Proofs.YtogmnhdadggnbaaDoor.Sh Go.Proofs.YtogmnhdadggnbaaDoor.F Go.Proofs.YtogmnhdadggnbaaDoor.R

/-! ### an image's bytes, by the document -/
section
variable {wb : World} {b g0 : Nat} {m : ImgV} {A B D : Option Addr} {k0 c0 k1 c1 k2 c2 : Nat} {K : Value → World → Prop}
theorem rbody_tail (ok : ImgOk m) (hb : b = wb.heap.size) (hB : Blk wb g0 Ty.ref17_Image (imgC m A k0 c0 B k1 c1 D k2 c2)) (hy : Cs wb B (nums .i64 m.offs)) (h1 : k1 = m.offs.length) (hz : Cs wb D (nums .u8 m.bytes)) (h2 : k2 = m.bytes.length)
    (hK : ∀ A c w', w'.ownsRow b Ty.uint8 1 (.slice A (bodyI m).length c) (bodyI m).length (nums .u8 (bodyI m)) → Below b wb w' → K (.tuple #[.slice A (bodyI m).length c, .int .i64 0]) w')
    {w : World} (bw : Below b wb w) {X : Option Addr} {n c : Nat} (hn : n = (varB m.pg ++ varB m.cl ++ varB m.size).length) (o : w.ownsRow b Ty.uint8 1 (.slice X n c) n (nums .u8 (varB m.pg ++ varB m.cl ++ varB m.size)))
    {p : Option Addr} {bs : Nat} {F : Nat → Prop} (hS : RefV w bs p (slotsN m.cl) (setL m.live) F) : ref17_Body.p7 K ⟨g0, 0, none⟩ X n c p w := by
  have v1 := @varB_le m.pg
  have v2 := @varB_le m.cl
  have v3 := @varB_le m.size
  have v4 := @varB_le (m.base / 256)
  have hs := clsSlots_le m.cl
  have hbl := @bytL_len (setL m.live) (slotsN m.cl)
  have htl := @tabB_len m.offs
  have hol := right_len ok.tab
  have hsm := ok.small
  have hn30 : n ≤ 30 := by rw [hn]; simp only [List.length_append]; omega
  have hio := right_I ok.tab
  have ht : ∀ w', Below b wb w' → b ≤ w'.heap.size := fun w' h => by have := h.size; omega
  refine ref03_Set_Bytes_c hS (rise_within ok.rise) fun A3 c3 w3 o3 b3 => ⟨_, _, _, rfl, ?_⟩
  have bw3 := bw.trans (b3.mono (ht _ bw))
  refine app_b (own_below_kp o b3) hbl.symm (Cs.ofOwn o3) (by omega) (ht _ bw3) fun A4 c4 w4 o4 b4 => ⟨_, _, _, rfl, ?_⟩
  have bw4 := bw3.trans b4
  have hB4 := hB.kp (Kp.of_below (hb ▸ bw4)) id
  have e1 : IntKind.wrap .u64 (IntKind.wrap .i64 (Int.tdiv m.base 256)) = m.base / 256 := by
    have := ok.base0; have := ok.base1
    rw [Int.tdiv_eq_ediv_of_nonneg (by omega), wrap64_in (by omega) (by omega), wrapu64_in (by omega) (by omega)]
  refine ⟨_, hB4.cell' (j := 4) rfl, by decide, ?_⟩
  rw [e1]
  refine ref01_Var_c ⟨by have := ok.base0; omega, by have := ok.base1; omega⟩ fun A5 c5 w5 o5 b5 => ⟨_, _, _, rfl, ?_⟩
  have bw5 := bw4.trans (b5.mono (ht _ bw4))
  refine app_b (own_below_kp o4 b5) rfl (Cs.ofOwn o5) (by omega) (ht _ bw5) fun A6 c6 w6 o6 b6 => ⟨_, _, _, rfl, ?_⟩
  have bw6 := bw5.trans b6
  have hB6 := hB.kp (Kp.of_below (hb ▸ bw6)) id
  refine ⟨_, _, _, hB6.cell' (j := 5) rfl, ?_⟩
  refine ref16_Bytes_c (hy.below (hb ▸ bw6)) h1 (by omega) hio (fun h => by rw [ok.tab] at h; cases h) fun _ A7 c7 w7 o7 b7 => ⟨_, _, _, _, rfl, ?_⟩
  have bw7 := bw6.trans (b7.mono (ht _ bw6))
  have hB7 := hB.kp (Kp.of_below (hb ▸ bw7)) id
  refine app_b (own_below_kp o6 b7) rfl (Cs.ofOwn o7) (by omega) (ht _ bw7) fun A8 c8 w8 o8 b8 => ⟨_, _, _, rfl, ?_⟩
  have bw8 := bw7.trans b8
  have hB8 := hB.kp (Kp.of_below (hb ▸ bw8)) id
  refine ⟨_, _, _, hB8.cell' (j := 6) rfl, ?_⟩
  refine app_b o8 h2 (hz.below (hb ▸ bw8)) (by omega) (ht _ bw8) fun A9 c9 w9 o9 b9 => ⟨_, _, _, rfl, ?_⟩
  have bw9 := bw8.trans b9
  have el : n + (slotsN m.cl + 7) / 8 + (varB (m.base / 256)).length + (tabB m.offs).length + k2 = (bodyI m).length := by
    unfold bodyI
    simp only [List.length_append] at hn ⊢
    omega
  have hK9 := hK A9 c9 w9
  rw [← el] at hK9
  exact hK9 o9 bw9
theorem rbody_step (hb : b = wb.heap.size) {g3 : Nat} {vs : List Value} (hN : Blk wb g3 Ty.int vs) {w : World} (bw : Below b wb w) {i : Nat} (hi : i < 3) {v : Int} (hv : vs[i]? = some (.int .i64 v)) (h0 : 0 ≤ v ∧ v ≤ 1000000) {X : Option Addr} {n c : Nat} {acc : List Int} (hn : n = acc.length) (hacc : acc.length ≤ 100) {x1 : Addr}
    (o : w.ownsRow b Ty.uint8 1 (.slice X n c) n (nums .u8 acc)) {k : Nat}
    (hK : ∀ X' c' w', w'.ownsRow b Ty.uint8 1 (.slice X' (acc ++ varB v).length c') (acc ++ varB v).length (nums .u8 (acc ++ varB v)) → Below b wb w' → ref17_Body.l0 K k x1 X' (acc ++ varB v).length c' (some ⟨g3, 0, none⟩) 3 3 3 ((i + 1 : Nat) : Int) w') :
    ref17_Body.l0 K (k + 1) x1 X n c (some ⟨g3, 0, none⟩) 3 3 3 (i : Int) w := by
  have v1 := @varB_le v
  have ht : ∀ w', Below b wb w' → b ≤ w'.heap.size := fun w' h => by have := h.size; omega
  rw [ref17_Body.l0_succ]
  refine cond_dec (fun _ => ?_) (fun h => absurd (by omega) h)
  rw [Int.toNat_natCast]
  have hc : w.cell? ((⟨g3, 0, none⟩ : Addr).add i) = some (.int .i64 v) := by rw [add_at, Nat.zero_add]; exact (hN.kp (Kp.of_below (hb ▸ bw)) id).cell' hv
  refine ⟨⟨by omega, by omega⟩, _, rfl, _, hc, ?_⟩
  rw [wrapu64_in (by omega) (by omega)]
  refine ref01_Var_c ⟨by omega, by omega⟩ fun A5 c5 w5 o5 b5 => ⟨_, _, _, rfl, ?_⟩
  have bw5 := bw.trans (b5.mono (ht _ bw))
  refine app_b (own_below_kp o b5) rfl (Cs.ofOwn o5) (by omega) (ht _ bw5) fun A6 c6 w6 o6 b6 => ⟨_, _, _, rfl, ?_⟩
  have el : n + (varB v).length = (acc ++ varB v).length := by rw [List.length_append, hn]
  rw [el] at o6 ⊢
  rw [cst i (by omega)]
  exact hK _ _ _ o6 (bw5.trans b6)
end
section
variable {wb : World} {b g0 : Nat} {m : ImgV} {A B D : Option Addr} {k0 c0 k1 c1 k2 c2 : Nat} {K : Value → World → Prop}
theorem rbody_adds (hb : b = wb.heap.size) (hx : Cs wb A (nums .i64 m.live)) (h0 : k0 = m.live.length) (hr : riseV (slotsN m.cl) (-1) m.live = true) {X : Option Addr} {n c : Nat} {acc : List Int} {p : Option Addr} {bs : Nat} {F : Nat → Prop} (hbs : b ≤ bs) {x1 : Addr}
    (hF : ∀ g, (Value.slice X n c).ownBlock = some g → ¬ F g) 
    (hK : ∀ w', RefV w' bs p (slotsN m.cl) (setL m.live) F → Below b wb w' → w'.ownsRow b Ty.uint8 1 (.slice X n c) n (nums .u8 acc) → ref17_Body.p7 K x1 X n c p w') :
    ∀ (d i : Nat) (last : Int) (w : World), i + d = m.live.length → (∀ y ∈ m.live.take i, y ≤ last ∧ 0 ≤ y ∧ y < (slotsN m.cl : Int)) → -1 ≤ last → riseV (slotsN m.cl) last (m.live.drop i) = true → RefV w bs p (slotsN m.cl) (setL (m.live.take i)) F → Below b wb w → w.ownsRow b Ty.uint8 1 (.slice X n c) n (nums .u8 acc) →
      ref17_Body.l1 K (d + 1) x1 X n c p A k0 c0 k0 (i : Int) w := by
  have ht : ∀ w', Below b wb w' → b ≤ w'.heap.size := fun w' h => by have := h.size; omega
  have hs := clsSlots_le m.cl
  have hll := (setL_cnt hr).2
  intro d
  induction d with
  | zero =>
    intro i last w hi hy hl hrd hS bw o
    rw [ref17_Body.l1_succ]
    refine cond_dec (fun h => absurd h (by omega)) (fun _ => ?_)
    rw [List.take_of_length_le (by omega)] at hS
    exact hK w hS bw o
  | succ d ih =>
    intro i last w hi hy hl hrd hS bw o
    rw [ref17_Body.l1_succ]
    refine cond_dec (fun _ => ?_) (fun h => absurd (by omega) h)
    have hlt : i < m.live.length := by omega
    have hxk : m.live[i]? = some m.live[i] := List.getElem?_eq_getElem hlt
    obtain ⟨a, rfl, c0⟩ := (hx.below (hb ▸ bw)).at (nums_at hxk)
    rw [List.drop_eq_getElem_cons hlt, riseV] at hrd
    have et : m.live.take (i + 1) = m.live.take i ++ [m.live[i]] := take_snoc hxk
    by_cases hbad : m.live[i] ≤ last ∨ (slotsN m.cl : Int) ≤ m.live[i]
    · rw [if_pos hbad] at hrd; cases hrd
    rw [if_neg hbad] at hrd
    rw [Int.toNat_natCast]
    refine ⟨⟨by omega, by omega⟩, a, rfl, _, c0, ?_⟩
    obtain ⟨x, hxe⟩ : ∃ x : Nat, m.live[i] = x := ⟨m.live[i].toNat, by omega⟩
    rw [hxe] at hrd et hbad ⊢
    have hnot : setL (m.live.take i) x = false := by
      unfold setL
      refine decide_eq_false fun hmem => ?_
      have := (hy _ hmem).1
      omega
    have hcp : canPut (setL (m.live.take i)) (slotsN m.cl) (x : Int) true = true := by unfold canPut; rw [Int.toNat_natCast, hnot, decide_eq_true (by omega), decide_eq_true (by omega)]; rfl
    have es : putS (setL (m.live.take i)) (slotsN m.cl) (x : Int) true = setL (m.live.take (i + 1)) := by unfold putS; rw [if_pos hcp, Int.toNat_natCast, setL_snoc, et]
    have hw : Within (setL (m.live.take i)) (slotsN m.cl) := setL_within fun y h => (hy y h).2.2
    refine ref03_Set_Put_c hS fun w1 h3 k3 => ⟨_, rfl, ?_⟩
    rw [es] at h3
    rw [cst i (by omega)]
    refine ih (i + 1) x w1 (by omega) (fun y h => ?_) (by omega) hrd h3 (bw.trans (k3.below (ht _ bw) fun j hj hg => by have := (hS.lt hg).1; omega)) (own_kp o k3 fun g hg => hF g hg)
    rw [et] at h
    rcases List.mem_append.1 h with h | h
    · have := hy y h; exact ⟨by omega, this.2⟩
    · obtain rfl := List.mem_singleton.1 h
      exact ⟨Int.le_refl _, by omega, by omega⟩
theorem ref17_Body_c {w : World} (hpg : I64 m.pg) (hcl : I64 m.cl) (hsize : I64 m.size) (hx : Cs w A (nums .i64 m.live)) (h0 : k0 = m.live.length) (hl : k0 ≤ 1000000000000000) (hi : ∀ x ∈ m.live, I64 x) (hy : Cs w B (nums .i64 m.offs)) (h1 : k1 = m.offs.length) (hio : ∀ x ∈ m.offs, I64 x) (hz : Cs w D (nums .u8 m.bytes)) (h2 : k2 = m.bytes.length) (hl2 : k2 ≤ 1000000000000000)
    (hN : ∀ w', rightI m = false → Below w.heap.size w w' → K (.tuple #[.slice none 0 0, .int .i64 4]) w')
    (hK : rightI m = true → ∀ A c w', w'.ownsRow w.heap.size Ty.uint8 1 (.slice A (bodyI m).length c) (bodyI m).length (nums .u8 (bodyI m)) → Below w.heap.size w w' → K (.tuple #[.slice A (bodyI m).length c, .int .i64 0]) w') :
    CallsE Pg ref17_Body.N #[.agg #[.int .i64 m.pg, .int .i64 m.cl, .int .i64 m.size, .slice A k0 c0, .int .i64 m.base, .slice B k1 c1, .slice D k2 c2]] w K := by
  refine ref17_Body.ok (wlet_intro fun w1 e1 => ?_)
  have b1 : Below w.heap.size w w1 := by rw [e1]; exact (Below.refl _ _).alloc (Nat.le_refl _) _
  have hB1 : Blk w1 w.heap.size Ty.ref17_Image (imgC m A k0 c0 B k1 c1 D k2 c2) := by rw [e1]; exact Blk.new w _ _
  clear e1
  have s1 := hB1.lt
  generalize hg0 : w.heap.size = g0 at hB1 ⊢
  refine ⟨_, hB1.cell' (j := 0) rfl, _, hB1.cell' (j := 1) rfl, _, hB1.cell' (j := 2) rfl, _, _, _, hB1.cell' (j := 3) rfl, _, hB1.cell' (j := 4) rfl, _, _, _, hB1.cell' (j := 5) rfl, _, _, _, hB1.cell' (j := 6) rfl, ?_⟩
  refine ref17_Right_c hpg hcl hsize (hx.below b1) h0 hl hi (hy.below b1) h1 hio h2 hl2 fun w2 b2 => ⟨_, rfl, ?_⟩
  change condP (!rightI m) _ _
  have b2' := b1.trans (b2.mono b1.size)
  have hB2 := hB1.kp (Kp.of_below b2) id
  cases hr : rightI m with
  | false => exact condP_t (hN w2 hr b2')
  | true =>
    have hK := hK hr
    have ok := img_ok hr
    refine condP_f ?_
    obtain ⟨n1, n2, n3, _, _, n4, _⟩ := new_ok ok.new
    obtain ⟨z1, z2, _⟩ := new_size ok.new
    have npg : m.pg ≤ 4096 := by have := new_ok ok.new; omega
    refine ⟨_, hB2.cell' (j := 0) rfl, _, hB2.cell' (j := 1) rfl, _, hB2.cell' (j := 2) rfl, wlet_intro fun w3 e3 => ?_⟩
    have b3 : Below w2.heap.size w2 w3 := by rw [e3]; exact (Below.refl _ _).alloc (Nat.le_refl _) _
    have hN3 : Blk w3 w2.heap.size Ty.int [.int .i64 m.pg, .int .i64 m.cl, .int .i64 m.size] := by rw [e3]; exact Blk.new w2 _ _
    clear e3
    generalize hg3 : w2.heap.size = g3 at hN3 ⊢
    have b3' := b2'.trans (b3.mono b2'.size)
    have hB3 := hB2.kp (Kp.of_below b3) id
    have rfl3 := Below.refl w3.heap.size w3
    have hs := clsSlots_nat m.cl
    refine ⟨4, ?_⟩
    refine rbody_step (b := w3.heap.size) (i := 0) rfl hN3 rfl3 (by decide) (v := m.pg) rfl ⟨by omega, by omega⟩ (acc := []) rfl (by simp) (World.ownsRow_nil _ _ _ _) fun X4 c4 w4 o4 b4 => ?_
    have v1 := @varB_le m.pg
    have v2 := @varB_le m.cl
    rw [List.nil_append] at o4 ⊢
    refine rbody_step (b := w3.heap.size) (i := 1) rfl hN3 b4 (by decide) (v := m.cl) rfl ⟨by omega, by omega⟩ rfl (by omega) o4 fun X5 c5 w5 o5 b5 => ?_
    refine rbody_step (b := w3.heap.size) (i := 2) rfl hN3 b5 (by decide) (v := m.size) rfl ⟨by omega, by omega⟩ rfl (by rw [List.length_append]; omega) o5 fun X6 c6 w6 o6 b6 => ?_
    generalize hacc : varB m.pg ++ varB m.cl ++ varB m.size = acc at o6 ⊢
    rw [ref17_Body.l0_succ]
    refine cond_dec (fun h => absurd h (by omega)) (fun _ => ?_)
    have hB6 := hB3.kp (Kp.of_below b6) id
    refine ⟨_, hB6.cell' (j := 1) rfl, ref06_Slots_c ⟨_, rfl, ?_⟩⟩
    rw [hs.1]
    refine ref03_New_c fun w7 p F hS b7 => ⟨_, rfl, ?_⟩
    rw [clampN_nat (by omega)] at hS
    have b7' := b6.trans (b7.mono b6.size)
    have hB7 := hB6.kp (Kp.of_below b7) id
    have o7 := own_below_kp o6 b7
    refine ⟨_, _, _, hB7.cell' (j := 3) rfl, m.live.length + 1, ?_⟩
    have hx3 := hx.below b3'
    have hy3 := hy.below b3'
    have hz3 := hz.below b3'
    have f6 : ∀ g, (Value.slice X6 acc.length c6).ownBlock = some g → ¬ F g := fun g hg hF => by have := (own_lt o6 hg).2; have := (hS.lt hF).1; omega
    refine rbody_adds (b := w3.heap.size) rfl hx3 h0 ok.rise b6.size f6 (fun w8 hS8 b8 o8 => ?_) m.live.length 0 (-1) w7 (by omega) (fun y hy => by cases hy) (by decide) ok.rise (by rw [List.take_zero, setL_nil]; exact hS) b7' o7
    subst hacc
    refine rbody_tail ok rfl hB3 hy3 h1 hz3 h2 (fun A' c' w' o' b' => ?_) b8 rfl o8 hS8
    have s3 := b3'.size
    exact hK A' c' w' (own_base o' (by omega)) (b3'.trans (b'.mono (by omega)))
end
/-! ### an image, copied -/
theorem cs_rd {w : World} {a : Addr} {cs : List Value} {j : Nat} {v : Value} (h : Cs w (some a) cs) (hv : cs[j]? = some v) : w.cell? (a.add j) = some v := by
  obtain ⟨b, e, hc⟩ := h.at hv
  cases e
  exact hc
theorem cs_heap {w w' : World} {A : Option Addr} {cs : List Value} (h : Cs w A cs) (e : w'.heap = w.heap) : Cs w' A cs := fun j v hj => by
  obtain ⟨a, ha, hc⟩ := h j v hj
  exact ⟨a, ha, held hc w' e⟩
def Ho (A : Option Addr) (cs : List Value) : Array Obj → Prop := fun H => ∀ w' : World, w'.heap = H → Cs w' A cs
theorem Ho.of {w : World} {A : Option Addr} {cs : List Value} (h : Cs w A cs) : Ho A cs w.heap := fun w' e => cs_heap h e
theorem span_info : (Pg.info? Ty.api_Span).map (fun i => (i.zero, i.size, i.bytes)) = some (some (.agg #[.int .i64 0, .int .i64 0, .int .i64 0, .slice none 0 0]), 4, 48) := by kernel_rfl
theorem spans_under : Pg.underlying Ty.sl_api_Span = some (.slice Ty.api_Span) := by kernel_rfl
section
variable {w : World} {pg cl size : Int} {l : List Int} {A L : Option Addr} {m cm c : Nat} {K : Value → World → Prop}
theorem ref10_Copy1_c (hx : Cs w A [.int .i64 pg, .int .i64 cl, .int .i64 size, .slice L m cm]) (hl : Cs w L (nums .i64 l)) (hm : m = l.length) (hml : m * 8 ≤ 140737488355328)
    (hK : ∀ a c' L' cm' w', Cs w' (some a) [.int .i64 pg, .int .i64 cl, .int .i64 size, .slice L' m cm'] → w.heap.size ≤ a.block → a.block < w'.heap.size → w'.ownsRow w.heap.size Ty.int 1 (.slice L' m cm') m (nums .i64 l) → Below w.heap.size w w' → K (.slice (some a) 1 c') w') :
    CallsE Pg ref10_Copy.N #[.slice A 1 c] w K := by
  refine ref10_Copy.ok ⟨2, ?_⟩
  rw [ref10_Copy.l0_succ]
  refine cond_dec (fun _ => ?_) (fun h => absurd (by decide) h)
  obtain ⟨a, rfl, hc0⟩ := hx.at (j := 0) rfl
  refine ⟨⟨by decide, by decide⟩, a, rfl, _, cs_rd hx (j := 0) rfl, _, cs_rd hx (j := 1) rfl, _, cs_rd hx (j := 2) rfl, _, _, _, cs_rd hx (j := 3) rfl, wlet_intro fun w1 e1 => ?_⟩
  have b1 : Below w.heap.size w w1 := by rw [e1]; exact (Below.refl _ _).alloc (Nat.le_refl _) _
  have hB1 : Blk w1 w.heap.size Ty.api_Span [.int .i64 0, .int .i64 0, .int .i64 0, .slice none 0 0] := by rw [e1]; exact Blk.new w _ _
  clear e1
  have s1 := hB1.lt
  generalize hg1 : w.heap.size = g1 at hB1 ⊢
  refine st4 hB1 fun w2 hB2 k2 _ => ?_
  have b2' := kp_under b1 k2 (by omega)
  have s2 := k2.size
  refine wlet_intro fun w3 e3 => ?_
  have b3 : Below w2.heap.size w2 w3 := by rw [e3]; exact (Below.refl _ _).alloc (Nat.le_refl _) _
  have o3 : w3.ownsRow w2.heap.size Ty.int 1 (.slice (some ⟨w2.heap.size, 0, none⟩) 0 0) 0 (nums .i64 []) := by rw [e3]; exact own_new (Nat.le_refl _) (Nat.zero_le _) rfl
  clear e3
  have b3' := b2'.trans (b3.mono b2'.size)
  have hB3 := hB2.kp (Kp.of_below b3) id
  refine ⟨_, _, _, hB3.cell' (j := 3) rfl, app_i64 o3 hm (hl.below b3') (by omega) b3.size fun A4 c4 w4 o4 mv4 => ⟨_, _, _, rfl, ?_⟩⟩
  have k4 : Below w2.heap.size w3 w4 := mv4.below (fun i hi => (own_lt o3 hi).1) b3.size
  have b4' := b3'.trans (k4.mono (by have := b2'.size; omega))
  have hB4 := hB3.kp (Kp.of_below' k4) (by omega)
  rw [Nat.zero_add, List.nil_append] at o4
  refine blk_set1 (k := 3) hB4 (by simp) fun w5 hB5 k5 _ => ?_
  have b5' := kp_under b4' k5 (by omega)
  have hB5 : Blk w5 g1 Ty.api_Span [.int .i64 pg, .int .i64 cl, .int .i64 size, .slice A4 m c4] := by rw [← Nat.zero_add m]; exact hB5
  have f4 : ∀ g, (Value.slice A4 m c4).ownBlock = some g → ¬ g = g1 := fun g hg => by have := (own_lt o4 hg).1; omega
  have o5 := own_kp o4 k5 f4
  refine ⟨_, hB5.cell' (j := 0) rfl, _, hB5.cell' (j := 1) rfl, _, hB5.cell' (j := 2) rfl, _, _, _, hB5.cell' (j := 3) rfl, wlet_intro fun w6 e6 => ?_⟩
  have b6 : Below w5.heap.size w5 w6 := by rw [e6]; exact (Below.refl _ _).alloc (Nat.le_refl _) _
  have hB6 : Blk w6 w5.heap.size Ty.api_Span [.int .i64 pg, .int .i64 cl, .int .i64 size, .slice A4 m c4] := by rw [e6]; exact Blk.new w5 _ _
  clear e6
  have b6' := b5'.trans (b6.mono b5'.size)
  refine app_own (n := 0) (xs := []) w.heap.size spans_under span_info rfl (by decide) (World.ownsRow_nil _ _ _ _) (m := 1) rfl (Cs.of_blk0 hB6) (fun u hu => ?_) (by decide) (by decide) b6'.size fun A7 c7 w7 o7 mv7 => ⟨_, _, _, rfl, ?_⟩
  · simp only [List.mem_cons, List.mem_nil_iff, or_false] at hu
    rcases hu with rfl | rfl | rfl | rfl <;> rfl
  · rw [ref10_Copy.l0_succ]
    refine cond_dec (fun h => absurd h (by decide)) (fun _ => ?_)
    rw [List.nil_append] at o7
    have k7 : Below w6.heap.size w6 w7 := mv7.below (fun i hi => by cases hi) (Nat.le_refl _)
    have o7z := own_below_kp (own_below_kp o5 b6) k7
    have hc7 := Cs.ofOwn o7
    obtain ⟨a7, rfl, _⟩ := hc7.at (j := 0) rfl
    have hlt := own_lt o7 (g := a7.block) rfl
    exact hK a7 c7 A4 c4 w7 hc7 (by omega) hlt.2 (own_base o7z (by omega)) (b6'.trans (k7.mono b6'.size))
end
section
variable {w : World} {m : ImgV} {A B D : Option Addr} {k0 c0 k1 c1 k2 c2 : Nat} {K : Value → World → Prop}
theorem law17_theirs_c (hx : Cs w A (nums .i64 m.live)) (h0 : k0 = m.live.length) (hl0 : k0 * 8 ≤ 140737488355328) (hy : Cs w B (nums .i64 m.offs)) (h1 : k1 = m.offs.length) (hl1 : k1 * 8 ≤ 140737488355328) (hz : Cs w D (nums .u8 m.bytes)) (h2 : k2 = m.bytes.length) (hl2 : k2 ≤ 140737488355328)
    (hK : ∀ A' c0' B' c1' D' c2' w', w'.ownsRow w.heap.size Ty.int 1 (.slice A' k0 c0') k0 (nums .i64 m.live) → w'.ownsRow w.heap.size Ty.int 1 (.slice B' k1 c1') k1 (nums .i64 m.offs) → w'.ownsRow w.heap.size Ty.uint8 1 (.slice D' k2 c2') k2 (nums .u8 m.bytes) → Below w.heap.size w w' → K (.agg ⟨imgC m A' k0 c0' B' k1 c1' D' k2 c2'⟩) w') :
    CallsE Pg law17_Image_theirs.N #[.agg ⟨imgC m A k0 c0 B k1 c1 D k2 c2⟩] w K := by
  refine law17_Image_theirs.ok (wlet_intro fun w1 e1 => ?_)
  have b1 : Below w.heap.size w w1 := by rw [e1]; exact (Below.refl _ _).alloc (Nat.le_refl _) _
  have hB1 : Blk w1 w.heap.size Ty.law17_Image (imgC m A k0 c0 B k1 c1 D k2 c2) := by rw [e1]; exact Blk.new w _ _
  clear e1
  have s1 := hB1.lt
  refine wlet_intro fun w2 e2 => ?_
  have b2 : Below w1.heap.size w1 w2 := by rw [e2]; exact (Below.refl _ _).alloc (Nat.le_refl _) _
  have hB2 : Blk w2 w1.heap.size Ty.image_Image [.int .i64 0, .int .i64 0, .int .i64 0, .slice none 0 0, .int .i64 0, .slice none 0 0, .slice none 0 0] := by rw [e2]; exact Blk.new w1 _ _
  clear e2
  have s2 := hB2.lt
  have b2' := b1.trans (b2.mono b1.size)
  have hB12 := hB1.kp (Kp.of_below b2) id
  generalize hg1 : w.heap.size = g1 at hB12 ⊢
  generalize hg2 : w1.heap.size = g2 at hB2 ⊢
  refine ⟨Ho (some ⟨g1, 0, none⟩) (imgC m A k0 c0 B k1 c1 D k2 c2), Ho.of (Cs.of_blk0 hB12), _, fun w' h => cs_rd (h w' rfl) (j := 0) rfl, _, fun w' h => cs_rd (h w' rfl) (j := 1) rfl, _, fun w' h => cs_rd (h w' rfl) (j := 2) rfl, _, _, _, fun w' h => cs_rd (h w' rfl) (j := 3) rfl, _, fun w' h => cs_rd (h w' rfl) (j := 4) rfl, _, _, _, fun w' h => cs_rd (h w' rfl) (j := 5) rfl, _, _, _, fun w' h => cs_rd (h w' rfl) (j := 6) rfl, ?_, ?_⟩
  · refine wlet_intro fun w3 e3 => ?_
    have b3 : Below w2.heap.size w2 w3 := by rw [e3]; exact (Below.refl _ _).alloc (Nat.le_refl _) _
    have hB3 : Blk w3 w2.heap.size Ty.api_Span [.int .i64 m.pg, .int .i64 m.cl, .int .i64 m.size, .slice A k0 c0] := by rw [e3]; exact Blk.new w2 _ _
    clear e3
    have s3 := hB3.lt
    have b3' := b2'.trans (b3.mono b2'.size)
    have hB13 := hB12.kp (Kp.of_below b3) id
    have hB23 := hB2.kp (Kp.of_below b3) id
    refine ⟨_, fun _ h => h, Ho.of (Cs.of_blk0 hB13), ?_, ?_⟩
    · refine ref10_Copy1_c (Cs.of_blk0 hB3) (hx.below b3') h0 hl0 fun a c4 L4 cm4 w4 hc4 ha1 ha2 oL4 b4 => ⟨_, _, _, rfl, ?_⟩
      have b4' := b3'.trans (b4.mono b3'.size)
      have hB14 := hB13.kp (Kp.of_below b4) id
      have hB24 := hB23.kp (Kp.of_below b4) id
      refine ⟨fun H => Ho (some ⟨g1, 0, none⟩) (imgC m A k0 c0 B k1 c1 D k2 c2) H ∧ Ho (some a) [.int .i64 m.pg, .int .i64 m.cl, .int .i64 m.size, .slice L4 k0 cm4] H, fun _ h => h.1, ⟨Ho.of (Cs.of_blk0 hB14), Ho.of hc4⟩, ⟨by decide, by decide⟩, a, rfl, _, fun w' h => cs_rd (h.2 w' rfl) (j := 0) rfl, _, fun w' h => cs_rd (h.2 w' rfl) (j := 1) rfl, _, fun w' h => cs_rd (h.2 w' rfl) (j := 2) rfl, _, _, _, fun w' h => cs_rd (h.2 w' rfl) (j := 3) rfl, ?_⟩
      refine wlet_intro fun w5 e5 => ?_
      have b5 : Below w4.heap.size w4 w5 := by rw [e5]; exact (Below.refl _ _).alloc (Nat.le_refl _) _
      have o5 : w5.ownsRow w4.heap.size Ty.int 1 (.slice (some ⟨w4.heap.size, 0, none⟩) 0 0) 0 (nums .i64 []) := by rw [e5]; exact own_new (Nat.le_refl _) (Nat.zero_le _) rfl
      clear e5
      have b5' := b4'.trans (b5.mono b4'.size)
      have q1 := b4.size
      refine ⟨_, fun _ h => h, ⟨Ho.of ((Cs.of_blk0 hB14).below b5), Ho.of (hc4.below b5)⟩, ?_⟩
      refine app_i64 o5 h1 (hy.below b5') (by omega) b5.size fun A6 c6 w6 o6 mv6 => ?_
      have k6 : Below w4.heap.size w5 w6 := mv6.below (fun i hi => (own_lt o5 hi).1) b5.size
      have b6' := b5'.trans (k6.mono (by have := b4'.size; omega))
      have b46 : Below w4.heap.size w4 w6 := b5.trans k6
      rw [Nat.zero_add] at o6 ⊢
      rw [List.nil_append] at o6
      have q46 := b46.size
      have hB16 := hB14.kp (Kp.of_below b46) id
      have hB26 := hB24.kp (Kp.of_below b46) id
      have hc6 := hc4.below b46
      have oL6 := own_below_kp oL4 b46
      refine ⟨_, _, _, rfl, _, fun _ h => h, ⟨Ho.of (Cs.of_blk0 hB16), Ho.of hc6⟩, ?_⟩
      refine ref01_Copy_c (hz.below b6') h2 hl2 fun D7 c7 w7 o7 b7 => ⟨_, _, _, rfl, _, fun _ h => h, ⟨Ho.of ((Cs.of_blk0 hB16).below b7), Ho.of (hc6.below b7)⟩, _, fun _ h => h, ⟨Ho.of ((Cs.of_blk0 hB16).below b7), Ho.of (hc6.below b7)⟩, ?_⟩
      have b7' := b6'.trans (b7.mono b6'.size)
      have hB17 := hB16.kp (Kp.of_below b7) id
      have hB27 := hB26.kp (Kp.of_below b7) id
      have q2 := b6'.size
      have q3 := b7.size
      refine st7 hB27 fun w8 hB28 k8 _ => ?_
      have hB18 := hB17.kp k8 (by omega)
      have hc8 := (hc6.below b7).kp k8 (fun a' ha' => by cases ha'; omega)
      refine ⟨_, fun _ h => h, ⟨Ho.of (Cs.of_blk0 hB18), Ho.of hc8⟩, ?_⟩
      refine ⟨_, hB28.cell' (j := 0) rfl, _, hB28.cell' (j := 1) rfl, _, hB28.cell' (j := 2) rfl, _, _, _, hB28.cell' (j := 3) rfl, _, hB28.cell' (j := 4) rfl, _, _, _, hB28.cell' (j := 5) rfl, _, _, _, hB28.cell' (j := 6) rfl, ?_⟩
      have f1 : ∀ g, (Value.slice L4 k0 cm4).ownBlock = some g → ¬ g = g2 := fun g hg => by have := (own_lt oL6 hg).1; omega
      have f2 : ∀ g, (Value.slice A6 k1 c6).ownBlock = some g → ¬ g = g2 := fun g hg => by have := (own_lt o6 hg).1; omega
      have f3 : ∀ g, (Value.slice D7 k2 c7).ownBlock = some g → ¬ g = g2 := fun g hg => by have := (own_lt o7 hg).1; omega
      exact hK L4 cm4 A6 c6 D7 c7 w8 (own_base (own_kp (own_below_kp oL6 b7) k8 f1) (by omega)) (own_base (own_kp (own_below_kp o6 b7) k8 f2) (by omega)) (own_base (own_kp o7 k8 f3) (by omega)) (kp_under b7' k8 (by omega))
    · refine wlet_intro fun w4 e4 => ?_
      have b4 : Below w3.heap.size w3 w4 := by rw [e4]; exact (Below.refl _ _).alloc (Nat.le_refl _) _
      have oe : w4.ownsRow w3.heap.size Ty.int 1 (.slice (some ⟨w3.heap.size, 0, none⟩) 0 0) 0 (nums .i64 []) := by rw [e4]; exact own_new (Nat.le_refl _) (Nat.zero_le _) rfl
      clear e4
      have b4' := b3'.trans (b4.mono b3'.size)
      have hB14 := hB13.kp (Kp.of_below b4) id
      have hB24 := hB23.kp (Kp.of_below b4) id
      have hBs := hB3.kp (Kp.of_below b4) id
      have qe := (own_lt oe (g := w3.heap.size) rfl).2
      generalize hge : w3.heap.size = ge at oe qe ⊢
      refine ⟨_, fun _ h => h, Ho.of (Cs.of_blk0 hB14), ?_⟩
      refine ref10_Copy1_c (Cs.of_blk0 hBs) (hx.below b4') h0 hl0 fun a c5 L4 cm4 w5 hc5 ha1 ha2 oL5 b5 => ⟨_, _, _, rfl, ?_⟩
      have b5' := b4'.trans (b5.mono b4'.size)
      have hB15 := hB14.kp (Kp.of_below b5) id
      have hB25 := hB24.kp (Kp.of_below b5) id
      have oe5 := own_below_kp oe b5
      have q1 := b5.size
      have q0 := b4'.size
      refine ⟨fun H => Ho (some ⟨g1, 0, none⟩) (imgC m A k0 c0 B k1 c1 D k2 c2) H ∧ Ho (some a) [.int .i64 m.pg, .int .i64 m.cl, .int .i64 m.size, .slice L4 k0 cm4] H, fun _ h => h.1, ⟨Ho.of (Cs.of_blk0 hB15), Ho.of hc5⟩, ⟨by decide, by decide⟩, a, rfl, _, fun w' h => cs_rd (h.2 w' rfl) (j := 0) rfl, _, fun w' h => cs_rd (h.2 w' rfl) (j := 1) rfl, _, fun w' h => cs_rd (h.2 w' rfl) (j := 2) rfl, _, _, _, fun w' h => cs_rd (h.2 w' rfl) (j := 3) rfl, ?_⟩
      refine app_i64 oe5 h1 (hy.below b5') (by omega) (by omega) fun A6 c6 w6 o6 mv6 => ?_
      have fe : ∀ i, (Value.slice (some (⟨ge, 0, none⟩ : Addr)) 0 0).ownBlock = some i → i = ge := fun i hi => by cases hi; rfl
      have k6 : Below w.heap.size w5 w6 := mv6.below (fun i hi => by have := fe i hi; omega) (by omega)
      have b6' := b5'.trans k6
      rw [Nat.zero_add] at o6 ⊢
      rw [List.nil_append] at o6
      have hB16 := hB15.kp mv6.kp (fun h => by have := fe _ h; omega)
      have hB26 := hB25.kp mv6.kp (fun h => by have := fe _ h; omega)
      have hc6 := hc5.kp mv6.kp (fun a' ha' h => by cases ha'; have := fe _ h; omega)
      have oL6 := own_kp oL5 mv6.kp (fun g hg h => by have := fe _ h; have := (own_lt oL5 hg).1; omega)
      have q6 := mv6.kp.size
      refine ⟨_, _, _, rfl, _, fun _ h => h, ⟨Ho.of (Cs.of_blk0 hB16), Ho.of hc6⟩, ?_⟩
      refine ref01_Copy_c (hz.below b6') h2 hl2 fun D7 c7 w7 o7 b7 => ⟨_, _, _, rfl, _, fun _ h => h, ⟨Ho.of ((Cs.of_blk0 hB16).below b7), Ho.of (hc6.below b7)⟩, _, fun _ h => h, ⟨Ho.of ((Cs.of_blk0 hB16).below b7), Ho.of (hc6.below b7)⟩, ?_⟩
      have b7' := b6'.trans (b7.mono b6'.size)
      have hB17 := hB16.kp (Kp.of_below b7) id
      have hB27 := hB26.kp (Kp.of_below b7) id
      have q2 := b6'.size
      have q3 := b7.size
      refine st7 hB27 fun w8 hB28 k8 _ => ?_
      have hB18 := hB17.kp k8 (by omega)
      have hc8 := (hc6.below b7).kp k8 (fun a' ha' => by cases ha'; omega)
      refine ⟨_, fun _ h => h, ⟨Ho.of (Cs.of_blk0 hB18), Ho.of hc8⟩, ?_⟩
      refine ⟨_, hB28.cell' (j := 0) rfl, _, hB28.cell' (j := 1) rfl, _, hB28.cell' (j := 2) rfl, _, _, _, hB28.cell' (j := 3) rfl, _, hB28.cell' (j := 4) rfl, _, _, _, hB28.cell' (j := 5) rfl, _, _, _, hB28.cell' (j := 6) rfl, ?_⟩
      have f1 : ∀ g, (Value.slice L4 k0 cm4).ownBlock = some g → ¬ g = g2 := fun g hg => by have := (own_lt oL6 hg).1; omega
      have f2 : ∀ g, (Value.slice A6 k1 c6).ownBlock = some g → ¬ g = g2 := fun g hg => by have := (own_lt o6 hg).1; omega
      have f3 : ∀ g, (Value.slice D7 k2 c7).ownBlock = some g → ¬ g = g2 := fun g hg => by have := (own_lt o7 hg).1; omega
      exact hK L4 cm4 A6 c6 D7 c7 w8 (own_base (own_kp (own_below_kp oL6 b7) k8 f1) (by omega)) (own_base (own_kp (own_below_kp o6 b7) k8 f2) (by omega)) (own_base (own_kp o7 k8 f3) (by omega)) (kp_under b7' k8 (by omega))
  · refine wlet_intro fun w3 e3 => ?_
    have b3 : Below w2.heap.size w2 w3 := by rw [e3]; exact (Below.refl _ _).alloc (Nat.le_refl _) _
    have oe3 : w3.ownsRow w2.heap.size Ty.int 1 (.slice (some ⟨w2.heap.size, 0, none⟩) 0 0) 0 (nums .i64 []) := by rw [e3]; exact own_new (Nat.le_refl _) (Nat.zero_le _) rfl
    clear e3
    have b3' := b2'.trans (b3.mono b2'.size)
    have hB13 := hB12.kp (Kp.of_below b3) id
    have hB23 := hB2.kp (Kp.of_below b3) id
    have qe := (own_lt oe3 (g := w2.heap.size) rfl).2
    generalize hge : w2.heap.size = ge at oe3 qe ⊢
    refine ⟨_, fun _ h => h, Ho.of (Cs.of_blk0 hB13), wlet_intro fun w4 e4 => ?_⟩
    have b4 : Below w3.heap.size w3 w4 := by rw [e4]; exact (Below.refl _ _).alloc (Nat.le_refl _) _
    have hBs : Blk w4 w3.heap.size Ty.api_Span [.int .i64 m.pg, .int .i64 m.cl, .int .i64 m.size, .slice A k0 c0] := by rw [e4]; exact Blk.new w3 _ _
    clear e4
    have b4' := b3'.trans (b4.mono b3'.size)
    have hB14 := hB13.kp (Kp.of_below b4) id
    have hB24 := hB23.kp (Kp.of_below b4) id
    have oe := own_below_kp oe3 b4
    have q4 := b4.size
    refine ⟨_, fun _ h => h, Ho.of (Cs.of_blk0 hB14), ?_⟩
    refine ref10_Copy1_c (Cs.of_blk0 hBs) (hx.below b4') h0 hl0 fun a c5 L4 cm4 w5 hc5 ha1 ha2 oL5 b5 => ⟨_, _, _, rfl, ?_⟩
    have b5' := b4'.trans (b5.mono b4'.size)
    have hB15 := hB14.kp (Kp.of_below b5) id
    have hB25 := hB24.kp (Kp.of_below b5) id
    have oe5 := own_below_kp oe b5
    have q1 := b5.size
    have q0 := b4'.size
    refine ⟨fun H => Ho (some ⟨g1, 0, none⟩) (imgC m A k0 c0 B k1 c1 D k2 c2) H ∧ Ho (some a) [.int .i64 m.pg, .int .i64 m.cl, .int .i64 m.size, .slice L4 k0 cm4] H, fun _ h => h.1, ⟨Ho.of (Cs.of_blk0 hB15), Ho.of hc5⟩, ⟨by decide, by decide⟩, a, rfl, _, fun w' h => cs_rd (h.2 w' rfl) (j := 0) rfl, _, fun w' h => cs_rd (h.2 w' rfl) (j := 1) rfl, _, fun w' h => cs_rd (h.2 w' rfl) (j := 2) rfl, _, _, _, fun w' h => cs_rd (h.2 w' rfl) (j := 3) rfl, ?_⟩
    refine app_i64 oe5 h1 (hy.below b5') (by omega) (by omega) fun A6 c6 w6 o6 mv6 => ?_
    have fe : ∀ i, (Value.slice (some (⟨ge, 0, none⟩ : Addr)) 0 0).ownBlock = some i → i = ge := fun i hi => by cases hi; rfl
    have k6 : Below w.heap.size w5 w6 := mv6.below (fun i hi => by have := fe i hi; omega) (by omega)
    have b6' := b5'.trans k6
    rw [Nat.zero_add] at o6 ⊢
    rw [List.nil_append] at o6
    have hB16 := hB15.kp mv6.kp (fun h => by have := fe _ h; omega)
    have hB26 := hB25.kp mv6.kp (fun h => by have := fe _ h; omega)
    have hc6 := hc5.kp mv6.kp (fun a' ha' h => by cases ha'; have := fe _ h; omega)
    have oL6 := own_kp oL5 mv6.kp (fun g hg h => by have := fe _ h; have := (own_lt oL5 hg).1; omega)
    have q6 := mv6.kp.size
    refine ⟨_, _, _, rfl, _, fun _ h => h, ⟨Ho.of (Cs.of_blk0 hB16), Ho.of hc6⟩, ?_⟩
    refine ref01_Copy_c (hz.below b6') h2 hl2 fun D7 c7 w7 o7 b7 => ⟨_, _, _, rfl, _, fun _ h => h, ⟨Ho.of ((Cs.of_blk0 hB16).below b7), Ho.of (hc6.below b7)⟩, _, fun _ h => h, ⟨Ho.of ((Cs.of_blk0 hB16).below b7), Ho.of (hc6.below b7)⟩, ?_⟩
    have b7' := b6'.trans (b7.mono b6'.size)
    have hB17 := hB16.kp (Kp.of_below b7) id
    have hB27 := hB26.kp (Kp.of_below b7) id
    have q2 := b6'.size
    have q3 := b7.size
    refine st7 hB27 fun w8 hB28 k8 _ => ?_
    have hB18 := hB17.kp k8 (by omega)
    have hc8 := (hc6.below b7).kp k8 (fun a' ha' => by cases ha'; omega)
    refine ⟨_, fun _ h => h, ⟨Ho.of (Cs.of_blk0 hB18), Ho.of hc8⟩, ?_⟩
    refine ⟨_, hB28.cell' (j := 0) rfl, _, hB28.cell' (j := 1) rfl, _, hB28.cell' (j := 2) rfl, _, _, _, hB28.cell' (j := 3) rfl, _, hB28.cell' (j := 4) rfl, _, _, _, hB28.cell' (j := 5) rfl, _, _, _, hB28.cell' (j := 6) rfl, ?_⟩
    have f1 : ∀ g, (Value.slice L4 k0 cm4).ownBlock = some g → ¬ g = g2 := fun g hg => by have := (own_lt oL6 hg).1; omega
    have f2 : ∀ g, (Value.slice A6 k1 c6).ownBlock = some g → ¬ g = g2 := fun g hg => by have := (own_lt o6 hg).1; omega
    have f3 : ∀ g, (Value.slice D7 k2 c7).ownBlock = some g → ¬ g = g2 := fun g hg => by have := (own_lt o7 hg).1; omega
    exact hK L4 cm4 A6 c6 D7 c7 w8 (own_base (own_kp (own_below_kp oL6 b7) k8 f1) (by omega)) (own_base (own_kp (own_below_kp o6 b7) k8 f2) (by omega)) (own_base (own_kp o7 k8 f3) (by omega)) (kp_under b7' k8 (by omega))
end

end Go.Proofs.YtogmnhdadggnbaaDoor.C
