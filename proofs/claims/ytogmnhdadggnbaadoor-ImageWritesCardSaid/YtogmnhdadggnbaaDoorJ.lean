/-
  Parts of the proofs of this seat: what the functions compute. No condition beyond what each theorem states.
-/
import Derived.Test.YtogmnhdadggnbaaDoorF
import Derived.Test.YtogmnhdadggnbaaDoorRK
import Derived.Test.YtogmnhdadggnbaaDoorA
import Derived.Test.YtogmnhdadggnbaaDoorB
import Derived.Test.YtogmnhdadggnbaaDoorC
import Derived.Test.YtogmnhdadggnbaaDoorD
import Derived.Test.YtogmnhdadggnbaaDoorE
import Derived.Test.YtogmnhdadggnbaaDoorG
import Derived.Test.YtogmnhdadggnbaaDoorH
import Derived.Test.YtogmnhdadggnbaaDoorI
set_option linter.unusedVariables false
set_option linter.unusedSimpArgs false
set_option maxRecDepth 100000
namespace Go.Proofs.YtogmnhdadggnbaaDoor.C
open Go Go.RowKit Go.Proofs.YtogmnhdadggnbaaDoor Go.Proofs.YtogmnhdadggnbaaDoor.Sh Go.Proofs.YtogmnhdadggnbaaDoor.F Go.Proofs.YtogmnhdadggnbaaDoor.R

/-! ### an image's bytes -/
def bodyI (m : ImgV) : List Int := varB m.pg ++ varB m.cl ++ varB m.size ++ bytL (setL m.live) (slotsN m.cl) ++ varB (m.base / 256) ++ tabB m.offs ++ m.bytes
theorem new_size {pg cl size : Int} (h : newErr pg cl size = 0) : 0 ≤ size ∧ size ≤ 4096 ∧ (slotsN cl : Int) * spSize cl size ≤ 4096 := by
  obtain ⟨h1, h2, _, _, _, _, h3, h4, _⟩ := new_ok h
  have h5 : ¬ ((cl < 7 ∧ size ≠ 0) ∨ (cl = 7 ∧ clsOf size ≠ 7)) := fun h5 => by
    unfold newErr at h
    rw [if_neg (by omega), if_pos h5] at h; cases h
  have hs : (slotsN cl : Int) * spSize cl size ≤ 4096 := by
    by_cases h7 : cl = 7
    · subst h7
      have : slotsN 7 = 1 := by decide
      rw [this]; omega
    · have e : spSize cl size = clsSize cl := by unfold spSize; rw [if_neg h7]
      rw [e]
      have : cl = 0 ∨ cl = 1 ∨ cl = 2 ∨ cl = 3 ∨ cl = 4 ∨ cl = 5 ∨ cl = 6 := by omega
      rcases this with rfl | rfl | rfl | rfl | rfl | rfl | rfl <;> decide
  by_cases h7 : cl = 7
  · have e : spSize cl size = size := by unfold spSize; rw [if_pos h7]
    rw [e] at h3 h4
    exact ⟨by omega, by omega, hs⟩
  · have : size = 0 := by omega
    exact ⟨by omega, by omega, hs⟩
theorem of_parts {pg cl size : Int} {l : List Int} (he : ofErr pg cl size l = 0) : newErr pg cl size = 0 ∧ riseV (slotsN cl) (-1) l = true := by
  have hne : newErr pg cl size = 0 := by
    by_cases h : newErr pg cl size = 0
    · exact h
    · unfold ofErr at he; rw [if_pos h] at he; exact absurd he h
  refine ⟨hne, ?_⟩
  unfold ofErr at he
  rw [if_neg (fun h => h hne)] at he
  by_cases h : riseV (slotsN cl) (-1) l = true
  · exact h
  · rw [if_neg h] at he; cases he
theorem size_4k {pg cl size : Int} {l : List Int} : sizeI pg cl size l ≤ 4096 := by
  unfold sizeI
  split
  · decide
  · rename_i he
    obtain ⟨hne, hr⟩ := of_parts (show ofErr pg cl size l = 0 by omega)
    obtain ⟨_, _, _, _, _, _, hs1, hs2, _, _⟩ := new_ok hne
    have hc2 := (setL_cnt hr).2
    exact Int.le_trans (Int.mul_le_mul_of_nonneg_right (by omega) (by omega)) (new_size hne).2.2
theorem rightFrom_mono {nb nb' : Int} (h : imax 0 nb ≤ imax 0 nb') : ∀ (l : List Int) (next : Int), rightFrom nb next l = true → rightFrom nb' next l = true
  | [], _, _ => rfl
  | x :: l, next, hr => by
    rw [rightFrom] at hr ⊢
    by_cases hb : x < next ∨ x % 8 ≠ 0 ∨ imax 0 nb - 8 < x
    · rw [if_pos hb] at hr; cases hr
    · rw [if_neg hb] at hr
      rw [if_neg (by omega)]
      exact rightFrom_mono h l (x + 8) hr
theorem rightV_mono {nb nb' : Int} {l : List Int} (h : imax 0 nb ≤ imax 0 nb') (hr : rightV l nb = true) : rightV l nb' = true := by
  unfold rightV at hr ⊢
  by_cases hl : 8192 < l.length
  · rw [if_pos hl] at hr; cases hr
  · rw [if_neg hl] at hr ⊢
    exact rightFrom_mono h l 0 hr
/-- What is known of an image that may be. -/
structure ImgOk (m : ImgV) : Prop where
  new : newErr m.pg m.cl m.size = 0
  rise : riseV (slotsN m.cl) (-1) m.live = true
  len : (m.bytes.length : Int) = sizeI m.pg m.cl m.size m.live
  small : m.bytes.length ≤ 4096
  offs : rightV m.offs m.bytes.length = true
  tab : rightV m.offs 65535 = true
  base0 : 0 ≤ m.base
  base1 : m.base ≤ 1099511627776
  base2 : m.base % 256 = 0
theorem img_ok {m : ImgV} (h : rightI m = true) : ImgOk m := by
  unfold rightI at h
  simp only [Bool.and_eq_true, Bool.or_eq_true, decide_eq_true_eq] at h
  obtain ⟨h1, h2, h3, h4⟩ := h
  obtain ⟨a1, a2⟩ := of_parts h1
  have hsm : m.bytes.length ≤ 4096 := by have := @size_4k m.pg m.cl m.size m.live; omega
  have hbase : 0 ≤ m.base ∧ m.base ≤ 1099511627776 ∧ m.base % 256 = 0 := by
    rcases h4 with h4 | h4
    · unfold goodV at h4
      simp only [Bool.and_eq_true, decide_eq_true_eq, beq_iff_eq] at h4
      obtain ⟨b1, b2, b3⟩ := h4
      have : m.base % 256 = 0 := by rw [Int.tmod_eq_emod_of_nonneg (by omega)] at b3; exact b3
      omega
    · rw [h4.2]; decide
  exact ⟨a1, a2, h2, hsm, h3, rightV_mono (by unfold imax; (repeat' split) <;> omega) h3, hbase.1, hbase.2.1, hbase.2.2⟩
theorem varB_le {n : Int} : (varB n).length ≤ 10 := (varF_len 9 n).2
theorem right_len {l : List Int} {n : Int} (h : rightV l n = true) : l.length ≤ 8192 := by
  unfold rightV at h
  by_cases hl : 8192 < l.length
  · rw [if_pos hl] at h; cases h
  · omega
theorem app_b {w : World} {b n m c cm : Nat} {A B : Option Addr} {l r : List Int} {K : Value → World → Prop} (o : w.ownsRow b Ty.uint8 1 (.slice A n c) n (nums .u8 l)) (hm : m = r.length) (hx : Cs w B (nums .u8 r)) (hl : n + m ≤ 140737488355328) (hb : b ≤ w.heap.size)
    (h : ∀ A' c' w', w'.ownsRow b Ty.uint8 1 (.slice A' (n + m) c') (n + m) (nums .u8 (l ++ r)) → Below b w w' → K (.slice A' (n + m) c') w') : SemJ Pg (Builtin.append_ #[Ty.sl_uint8, Ty.sl_uint8] Ty.sl_uint8 #[.slice A n c, .slice B m cm]) K w :=
  app_bytes o hm hx hl hb fun A' c' w' o' mv => h A' c' w' o' (mv.below (fun i hi => (own_lt o hi).1) hb)
section
variable {wb : World} {b g0 : Nat} {m : ImgV} {A B D : Option Addr} {k0 c0 k1 c1 k2 c2 : Nat} {K : Value → World → Prop}
def imgC (m : ImgV) (A : Option Addr) (k0 c0 : Nat) (B : Option Addr) (k1 c1 : Nat) (D : Option Addr) (k2 c2 : Nat) : List Value := [.int .i64 m.pg, .int .i64 m.cl, .int .i64 m.size, .slice A k0 c0, .int .i64 m.base, .slice B k1 c1, .slice D k2 c2]
theorem body_tail (ok : ImgOk m) (hb : b = wb.heap.size) (hB : Blk wb g0 Ty.image_Image (imgC m A k0 c0 B k1 c1 D k2 c2)) (hy : Cs wb B (nums .i64 m.offs)) (h1 : k1 = m.offs.length) (hz : Cs wb D (nums .u8 m.bytes)) (h2 : k2 = m.bytes.length)
    (hK : ∀ A c w', w'.ownsRow b Ty.uint8 1 (.slice A (bodyI m).length c) (bodyI m).length (nums .u8 (bodyI m)) → Below b wb w' → K (.tuple #[.slice A (bodyI m).length c, .int .i64 0]) w')
    {w : World} (bw : Below b wb w) {X : Option Addr} {n c : Nat} (hn : n = (varB m.pg ++ varB m.cl ++ varB m.size).length) (o : w.ownsRow b Ty.uint8 1 (.slice X n c) n (nums .u8 (varB m.pg ++ varB m.cl ++ varB m.size)))
    {p : Option Addr} {bs : Nat} {F : Nat → Prop} (hS : SetV w bs p (slotsN m.cl) (setL m.live) F) : image_Body.p7 K ⟨g0, 0, none⟩ X n c p w := by
  have v1 := @varB_le m.pg
  have v2 := @varB_le m.cl
  have v3 := @varB_le m.size
  have v4 := @varB_le (m.base / 256)
  have hs := clsSlots_le m.cl
  have hbl := @bytL_len (setL m.live) (slotsN m.cl)
  have htl := @tabB_len m.offs
  have hol := right_len ok.tab
  have hsm := ok.small
  have hn30 : n ≤ 30 := by rw [hn]; simp only [List.length_append]; omega
  have hio := right_I ok.tab
  have ht : ∀ w', Below b wb w' → b ≤ w'.heap.size := fun w' h => by have := h.size; omega
  refine set_Set_Bytes_c hS fun A3 c3 w3 o3 b3 => ⟨_, _, _, rfl, ?_⟩
  have bw3 := bw.trans (b3.mono (ht _ bw))
  refine app_b (own_below_kp o b3) hbl.symm (Cs.ofOwn o3) (by omega) (ht _ bw3) fun A4 c4 w4 o4 b4 => ⟨_, _, _, rfl, ?_⟩
  have bw4 := bw3.trans b4
  have hB4 := hB.kp (Kp.of_below (hb ▸ bw4)) id
  have e1 : IntKind.wrap .u64 (IntKind.wrap .i64 (Int.tdiv m.base 256)) = m.base / 256 := by
    have := ok.base0; have := ok.base1
    rw [Int.tdiv_eq_ediv_of_nonneg (by omega), wrap64_in (by omega) (by omega), wrapu64_in (by omega) (by omega)]
  refine ⟨_, hB4.cell' (j := 4) rfl, by decide, ?_⟩
  rw [e1]
  refine num_Var_c ⟨by have := ok.base0; omega, by have := ok.base1; omega⟩ fun A5 c5 w5 o5 b5 => ⟨_, _, _, rfl, ?_⟩
  have bw5 := bw4.trans (b5.mono (ht _ bw4))
  refine app_b (own_below_kp o4 b5) rfl (Cs.ofOwn o5) (by omega) (ht _ bw5) fun A6 c6 w6 o6 b6 => ⟨_, _, _, rfl, ?_⟩
  have bw6 := bw5.trans b6
  have hB6 := hB.kp (Kp.of_below (hb ▸ bw6)) id
  refine ⟨_, _, _, hB6.cell' (j := 5) rfl, ?_⟩
  refine reloc_Bytes_c (hy.below (hb ▸ bw6)) h1 (by omega) hio (fun h => by rw [ok.tab] at h; cases h) fun _ A7 c7 w7 o7 b7 => ⟨_, _, _, _, rfl, ?_⟩
  have bw7 := bw6.trans (b7.mono (ht _ bw6))
  have hB7 := hB.kp (Kp.of_below (hb ▸ bw7)) id
  refine ⟨fun H => H[g0]? = some (.cells ⟨imgC m A k0 c0 B k1 c1 D k2 c2⟩ Ty.image_Image (0, 0)), hB7, _, _, _, fun w' hh => Blk.cell' (show Blk w' g0 Ty.image_Image (imgC m A k0 c0 B k1 c1 D k2 c2) from hh) (j := 6) rfl, ?_⟩
  refine app_b (own_below_kp o6 b7) rfl (Cs.ofOwn o7) (by omega) (ht _ bw7) fun A8 c8 w8 o8 b8 => ⟨_, _, _, rfl, ?_⟩
  have bw8 := bw7.trans b8
  have hB8 := hB.kp (Kp.of_below (hb ▸ bw8)) id
  refine ⟨hB8, ?_⟩
  refine app_b o8 h2 (hz.below (hb ▸ bw8)) (by omega) (ht _ bw8) fun A9 c9 w9 o9 b9 => ⟨_, _, _, rfl, ?_⟩
  have bw9 := bw8.trans b9
  have el : n + (slotsN m.cl + 7) / 8 + (varB (m.base / 256)).length + (tabB m.offs).length + k2 = (bodyI m).length := by
    unfold bodyI
    simp only [List.length_append] at hn ⊢
    omega
  have hK9 := hK A9 c9 w9
  rw [← el] at hK9
  exact hK9 o9 bw9
theorem body_step (hb : b = wb.heap.size) {g3 : Nat} {vs : List Value} (hN : Blk wb g3 Ty.int vs) {w : World} (bw : Below b wb w) {i : Nat} (hi : i < 3) {v : Int} (hv : vs[i]? = some (.int .i64 v)) (h0 : 0 ≤ v ∧ v ≤ 1000000) {X : Option Addr} {n c : Nat} {acc : List Int} (hn : n = acc.length) (hacc : acc.length ≤ 100) {x1 : Addr}
    (o : w.ownsRow b Ty.uint8 1 (.slice X n c) n (nums .u8 acc)) {k : Nat}
    (hK : ∀ X' c' w', w'.ownsRow b Ty.uint8 1 (.slice X' (acc ++ varB v).length c') (acc ++ varB v).length (nums .u8 (acc ++ varB v)) → Below b wb w' → image_Body.l0 K k x1 X' (acc ++ varB v).length c' (some ⟨g3, 0, none⟩) 3 3 3 ((i + 1 : Nat) : Int) w') :
    image_Body.l0 K (k + 1) x1 X n c (some ⟨g3, 0, none⟩) 3 3 3 (i : Int) w := by
  have v1 := @varB_le v
  have ht : ∀ w', Below b wb w' → b ≤ w'.heap.size := fun w' h => by have := h.size; omega
  rw [image_Body.l0_succ]
  refine cond_dec (fun _ => ?_) (fun h => absurd (by omega) h)
  rw [Int.toNat_natCast]
  have hc : w.cell? ((⟨g3, 0, none⟩ : Addr).add i) = some (.int .i64 v) := by rw [add_at, Nat.zero_add]; exact (hN.kp (Kp.of_below (hb ▸ bw)) id).cell' hv
  refine ⟨⟨by omega, by omega⟩, _, rfl, _, hc, ?_⟩
  rw [wrapu64_in (by omega) (by omega)]
  refine num_Var_c ⟨by omega, by omega⟩ fun A5 c5 w5 o5 b5 => ⟨_, _, _, rfl, ?_⟩
  have bw5 := bw.trans (b5.mono (ht _ bw))
  refine app_b (own_below_kp o b5) rfl (Cs.ofOwn o5) (by omega) (ht _ bw5) fun A6 c6 w6 o6 b6 => ⟨_, _, _, rfl, ?_⟩
  have el : n + (varB v).length = (acc ++ varB v).length := by rw [List.length_append, hn]
  rw [el] at o6 ⊢
  rw [cst i (by omega)]
  exact hK _ _ _ o6 (bw5.trans b6)
end
section
variable {wb : World} {b g0 : Nat} {m : ImgV} {A B D : Option Addr} {k0 c0 k1 c1 k2 c2 : Nat} {K : Value → World → Prop}
theorem body_adds (hb : b = wb.heap.size) (hx : Cs wb A (nums .i64 m.live)) (h0 : k0 = m.live.length) (hr : riseV (slotsN m.cl) (-1) m.live = true) {X : Option Addr} {n c : Nat} {acc : List Int} {p : Option Addr} {bs : Nat} {F : Nat → Prop} (hbs : b ≤ bs) {x1 : Addr}
    (hF : ∀ g, (Value.slice X n c).ownBlock = some g → ¬ F g) 
    (hK : ∀ w', SetV w' bs p (slotsN m.cl) (setL m.live) F → Below b wb w' → w'.ownsRow b Ty.uint8 1 (.slice X n c) n (nums .u8 acc) → image_Body.p7 K x1 X n c p w') :
    ∀ (d i : Nat) (last : Int) (w : World), i + d = m.live.length → (∀ y ∈ m.live.take i, y ≤ last ∧ 0 ≤ y ∧ y < (slotsN m.cl : Int)) → -1 ≤ last → riseV (slotsN m.cl) last (m.live.drop i) = true → SetV w bs p (slotsN m.cl) (setL (m.live.take i)) F → Below b wb w → w.ownsRow b Ty.uint8 1 (.slice X n c) n (nums .u8 acc) →
      image_Body.l1 K (d + 1) x1 X n c p A k0 c0 k0 (i : Int) w := by
  have ht : ∀ w', Below b wb w' → b ≤ w'.heap.size := fun w' h => by have := h.size; omega
  have hs := clsSlots_le m.cl
  have hll := (setL_cnt hr).2
  intro d
  induction d with
  | zero =>
    intro i last w hi hy hl hrd hS bw o
    rw [image_Body.l1_succ]
    refine cond_dec (fun h => absurd h (by omega)) (fun _ => ?_)
    rw [List.take_of_length_le (by omega)] at hS
    exact hK w hS bw o
  | succ d ih =>
    intro i last w hi hy hl hrd hS bw o
    rw [image_Body.l1_succ]
    refine cond_dec (fun _ => ?_) (fun h => absurd (by omega) h)
    have hlt : i < m.live.length := by omega
    have hxk : m.live[i]? = some m.live[i] := List.getElem?_eq_getElem hlt
    obtain ⟨a, rfl, c0⟩ := (hx.below (hb ▸ bw)).at (nums_at hxk)
    rw [List.drop_eq_getElem_cons hlt, riseV] at hrd
    have et : m.live.take (i + 1) = m.live.take i ++ [m.live[i]] := take_snoc hxk
    by_cases hbad : m.live[i] ≤ last ∨ (slotsN m.cl : Int) ≤ m.live[i]
    · rw [if_pos hbad] at hrd; cases hrd
    rw [if_neg hbad] at hrd
    rw [Int.toNat_natCast]
    refine ⟨⟨by omega, by omega⟩, a, rfl, _, c0, ?_⟩
    obtain ⟨x, hxe⟩ : ∃ x : Nat, m.live[i] = x := ⟨m.live[i].toNat, by omega⟩
    rw [hxe] at hrd et hbad ⊢
    have hnot : setL (m.live.take i) x = false := by
      unfold setL
      refine decide_eq_false fun hmem => ?_
      have := (hy _ hmem).1
      omega
    have hcp : canPut (setL (m.live.take i)) (slotsN m.cl) (x : Int) true = true := by unfold canPut; rw [Int.toNat_natCast, hnot, decide_eq_true (by omega), decide_eq_true (by omega)]; rfl
    have es : putS (setL (m.live.take i)) (slotsN m.cl) (x : Int) true = setL (m.live.take (i + 1)) := by unfold putS; rw [if_pos hcp, Int.toNat_natCast, setL_snoc, et]
    have hw : Within (setL (m.live.take i)) (slotsN m.cl) := setL_within fun y h => (hy y h).2.2
    refine set_Set_Add_c hS hw ⟨by omega, by omega⟩ fun w1 h3 k3 => ⟨_, rfl, ?_⟩
    rw [es] at h3
    rw [cst i (by omega)]
    refine ih (i + 1) x w1 (by omega) (fun y h => ?_) (by omega) hrd h3 (bw.trans (k3.below (ht _ bw) fun j hj hg => by have := (hS.lt hg).1; omega)) (own_kp o k3 fun g hg => hF g hg)
    rw [et] at h
    rcases List.mem_append.1 h with h | h
    · have := hy y h; exact ⟨by omega, this.2⟩
    · obtain rfl := List.mem_singleton.1 h
      exact ⟨Int.le_refl _, by omega, by omega⟩
theorem image_Body_c {w : World} (hpg : I64 m.pg) (hcl : I64 m.cl) (hsize : I64 m.size) (hx : Cs w A (nums .i64 m.live)) (h0 : k0 = m.live.length) (hl : k0 ≤ 1000000000000000) (hi : ∀ x ∈ m.live, I64 x) (hy : Cs w B (nums .i64 m.offs)) (h1 : k1 = m.offs.length) (hio : ∀ x ∈ m.offs, I64 x) (hz : Cs w D (nums .u8 m.bytes)) (h2 : k2 = m.bytes.length) (hl2 : k2 ≤ 1000000000000000)
    (hN : ∀ w', rightI m = false → Below w.heap.size w w' → K (.tuple #[.slice none 0 0, .int .i64 4]) w')
    (hK : rightI m = true → ∀ A c w', w'.ownsRow w.heap.size Ty.uint8 1 (.slice A (bodyI m).length c) (bodyI m).length (nums .u8 (bodyI m)) → Below w.heap.size w w' → K (.tuple #[.slice A (bodyI m).length c, .int .i64 0]) w') :
    CallsE Pg image_Body.N #[.agg #[.int .i64 m.pg, .int .i64 m.cl, .int .i64 m.size, .slice A k0 c0, .int .i64 m.base, .slice B k1 c1, .slice D k2 c2]] w K := by
  refine image_Body.ok (wlet_intro fun w1 e1 => ?_)
  have b1 : Below w.heap.size w w1 := by rw [e1]; exact (Below.refl _ _).alloc (Nat.le_refl _) _
  have hB1 : Blk w1 w.heap.size Ty.image_Image (imgC m A k0 c0 B k1 c1 D k2 c2) := by rw [e1]; exact Blk.new w _ _
  clear e1
  have s1 := hB1.lt
  generalize hg0 : w.heap.size = g0 at hB1 ⊢
  refine ⟨_, hB1.cell' (j := 0) rfl, _, hB1.cell' (j := 1) rfl, _, hB1.cell' (j := 2) rfl, _, _, _, hB1.cell' (j := 3) rfl, _, hB1.cell' (j := 4) rfl, _, _, _, hB1.cell' (j := 5) rfl, _, _, _, hB1.cell' (j := 6) rfl, ?_⟩
  refine image_Right_c hpg hcl hsize (hx.below b1) h0 hl hi (hy.below b1) h1 hio h2 hl2 fun w2 b2 => ⟨_, rfl, ?_⟩
  change condP (!rightI m) _ _
  have b2' := b1.trans (b2.mono b1.size)
  have hB2 := hB1.kp (Kp.of_below b2) id
  cases hr : rightI m with
  | false => exact condP_t (hN w2 hr b2')
  | true =>
    have hK := hK hr
    have ok := img_ok hr
    refine condP_f ?_
    obtain ⟨n1, n2, n3, _, _, n4, _⟩ := new_ok ok.new
    obtain ⟨z1, z2, _⟩ := new_size ok.new
    have npg : m.pg ≤ 4096 := by have := new_ok ok.new; omega
    refine ⟨_, hB2.cell' (j := 0) rfl, _, hB2.cell' (j := 1) rfl, _, hB2.cell' (j := 2) rfl, wlet_intro fun w3 e3 => ?_⟩
    have b3 : Below w2.heap.size w2 w3 := by rw [e3]; exact (Below.refl _ _).alloc (Nat.le_refl _) _
    have hN3 : Blk w3 w2.heap.size Ty.int [.int .i64 m.pg, .int .i64 m.cl, .int .i64 m.size] := by rw [e3]; exact Blk.new w2 _ _
    clear e3
    generalize hg3 : w2.heap.size = g3 at hN3 ⊢
    have b3' := b2'.trans (b3.mono b2'.size)
    have hB3 := hB2.kp (Kp.of_below b3) id
    have rfl3 := Below.refl w3.heap.size w3
    have hs := clsSlots_nat m.cl
    refine ⟨4, ?_⟩
    refine body_step (b := w3.heap.size) (i := 0) rfl hN3 rfl3 (by decide) (v := m.pg) rfl ⟨by omega, by omega⟩ (acc := []) rfl (by simp) (World.ownsRow_nil _ _ _ _) fun X4 c4 w4 o4 b4 => ?_
    have v1 := @varB_le m.pg
    have v2 := @varB_le m.cl
    rw [List.nil_append] at o4 ⊢
    refine body_step (b := w3.heap.size) (i := 1) rfl hN3 b4 (by decide) (v := m.cl) rfl ⟨by omega, by omega⟩ rfl (by omega) o4 fun X5 c5 w5 o5 b5 => ?_
    refine body_step (b := w3.heap.size) (i := 2) rfl hN3 b5 (by decide) (v := m.size) rfl ⟨by omega, by omega⟩ rfl (by rw [List.length_append]; omega) o5 fun X6 c6 w6 o6 b6 => ?_
    generalize hacc : varB m.pg ++ varB m.cl ++ varB m.size = acc at o6 ⊢
    rw [image_Body.l0_succ]
    refine cond_dec (fun h => absurd h (by omega)) (fun _ => ?_)
    have hB6 := hB3.kp (Kp.of_below b6) id
    refine ⟨_, hB6.cell' (j := 1) rfl, class_Slots_c ⟨_, rfl, ?_⟩⟩
    rw [hs.1]
    refine set_New_c fun w7 p F hS b7 => ⟨_, rfl, ?_⟩
    rw [clampN_nat (by omega)] at hS
    have b7' := b6.trans (b7.mono b6.size)
    have hB7 := hB6.kp (Kp.of_below b7) id
    have o7 := own_below_kp o6 b7
    refine ⟨_, _, _, hB7.cell' (j := 3) rfl, m.live.length + 1, ?_⟩
    have hx3 := hx.below b3'
    have hy3 := hy.below b3'
    have hz3 := hz.below b3'
    have f6 : ∀ g, (Value.slice X6 acc.length c6).ownBlock = some g → ¬ F g := fun g hg hF => by have := (own_lt o6 hg).2; have := (hS.lt hF).1; omega
    refine body_adds (b := w3.heap.size) rfl hx3 h0 ok.rise b6.size f6 (fun w8 hS8 b8 o8 => ?_) m.live.length 0 (-1) w7 (by omega) (fun y hy => by cases hy) (by decide) ok.rise (by rw [List.take_zero, setL_nil]; exact hS) b7' o7
    subst hacc
    refine body_tail ok rfl hB3 hy3 h1 hz3 h2 (fun A' c' w' o' b' => ?_) b8 rfl o8 hS8
    have s3 := b3'.size
    exact hK A' c' w' (own_base o' (by omega)) (b3'.trans (b'.mono (by omega)))
end

end Go.Proofs.YtogmnhdadggnbaaDoor.C
