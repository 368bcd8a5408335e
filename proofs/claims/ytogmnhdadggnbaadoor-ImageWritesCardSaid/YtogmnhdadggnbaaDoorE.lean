/-
  Parts of the proofs of this seat: what the functions compute. No condition beyond what each theorem states.
-/
import Derived.Test.YtogmnhdadggnbaaDoorF
import Derived.Test.YtogmnhdadggnbaaDoorRK
import Derived.Test.YtogmnhdadggnbaaDoorA
import Derived.Test.YtogmnhdadggnbaaDoorB
import Derived.Test.YtogmnhdadggnbaaDoorC
import Derived.Test.YtogmnhdadggnbaaDoorD
set_option linter.unusedVariables false
set_option linter.unusedSimpArgs false
set_option maxRecDepth 100000
namespace Go.Proofs.YtogmnhdadggnbaaDoor.C
open Go Go.RowKit Go.Proofs.YtogmnhdadggnbaaDoor Go.Proofs.YtogmnhdadggnbaaDoor.Sh Go.Proofs.YtogmnhdadggnbaaDoor.F Go.Proofs.YtogmnhdadggnbaaDoor.R

/-! ### images: plain -/
structure ImgV where
  pg : Int
  cl : Int
  size : Int
  live : List Int
  base : Int
  offs : List Int
  bytes : List Int
def img0 : ImgV := ⟨0, 0, 0, [], 0, [], []⟩
def sizeI (pg cl size : Int) (live : List Int) : Int := if ofErr pg cl size live ≠ 0 then 0 else live.length * spSize cl size
def rightI (m : ImgV) : Bool := decide (ofErr m.pg m.cl m.size m.live = 0) && (decide ((m.bytes.length : Int) = sizeI m.pg m.cl m.size m.live) && (rightV m.offs m.bytes.length && (goodV m.base || (m.offs.isEmpty && decide (m.base = 0)))))
def hPg (bs : List Int) : Int := uVal bs 0 4095
def hL1 (bs : List Int) : List Int := uLeft bs 0 4095
def hE1 (bs : List Int) : Int := uErr bs 0 4095
def hCl (bs : List Int) : Int := uVal (hL1 bs) (hE1 bs) 7
def hL2 (bs : List Int) : List Int := uLeft (hL1 bs) (hE1 bs) 7
def hE2 (bs : List Int) : Int := uErr (hL1 bs) (hE1 bs) 7
def hSize (bs : List Int) : Int := uVal (hL2 bs) (hE2 bs) 4096
def hL3 (bs : List Int) : List Int := uLeft (hL2 bs) (hE2 bs) 4096
def hE3 (bs : List Int) : Int := uErr (hL2 bs) (hE2 bs) 4096
def hK (bs : List Int) : Int := (((slotsN (hCl bs) + 7) / 8 : Nat) : Int)
def hBits (bs : List Int) : List Int := bOut (hL3 bs) 0 (hK bs)
def hLeft (bs : List Int) : List Int := bLeft (hL3 bs) 0 (hK bs)
def hErr (bs : List Int) : Int := if hE3 bs ≠ 0 then hE3 bs else if newErr (hPg bs) (hCl bs) (hSize bs) ≠ 0 then 4 else if bErr (hL3 bs) 0 (hK bs) ≠ 0 then bErr (hL3 bs) 0 (hK bs) else if badB (hBits bs) (slotsN (hCl bs)) = true then 4 else 0
def hLive (bs : List Int) : List Int := memL (bitsOf (hBits bs)) 0 (slotsN (hCl bs))
theorem uVal_err {left : List Int} {err most : Int} (h : err ≠ 0) (hm : 0 ≤ most) : uVal left err most = 0 ∧ uErr left err most = err ∧ uLeft left err most = left := by
  have e1 : vVal left err = 0 := by unfold vVal; rw [if_pos h]
  have e2 : vErr left err = err := by unfold vErr; rw [if_pos h]
  have e3 : vLeft left err = left := by unfold vLeft; rw [if_pos h]
  unfold uVal uErr uLeft
  rw [e1, if_neg (by omega), if_neg (by omega), if_neg (by omega)]
  exact ⟨rfl, e2, e3⟩
theorem b_err {left : List Int} {err n : Int} (h : err ≠ 0) : bOut left err n = [] ∧ bErr left err n = err ∧ bLeft left err n = left := by
  unfold bOut bErr bLeft
  rw [if_pos (.inl h), if_pos (.inl h), if_pos (.inl h)]
  exact ⟨rfl, rfl, rfl⟩
theorem clsSlots_le (cl : Int) : slotsN cl ≤ 16 := (clsSlots_nat cl).2
/-- The bits are as many bytes as they must be. -/
theorem b_len {left : List Int} {n : Int} (h : bErr left 0 n = 0) (hn : 0 ≤ n) : (bOut left 0 n).length = n.toNat ∧ left = bOut left 0 n ++ bLeft left 0 n := by
  unfold bErr at h
  unfold bOut bLeft
  by_cases h0 : (0 : Int) ≠ 0 ∨ n ≤ 0
  · rw [if_pos h0, if_pos h0]
    refine ⟨?_, rfl⟩
    have : n.toNat = 0 := by omega
    rw [this]; rfl
  · rw [if_neg h0] at h ⊢
    rw [if_neg h0]
    by_cases h1 : (left.length : Int) < n
    · rw [if_pos h1] at h; cases h
    · rw [if_neg h1, if_neg h1]
      exact ⟨by rw [List.length_take]; omega, (List.take_append_drop _ _).symm⟩
/-! ### readers behind a fault -/
section
variable {w : World} {b : Nat} {p : Option Addr} {left : List Int} {err : Int} {F : Nat → Prop} {K : Value → World → Prop}
theorem reloc_Read_err_c (hR : RdV Ty.num_Reader w b p left err F) (he : err ≠ 0) (hb : Bytes left) (hl : left.length ≤ 1000000000000000) (hK : ∀ w', RdV Ty.num_Reader w' b p left err F → Kp (pt p) w w' → K (.slice none 0 0) w') : CallsE Pg reloc_Read.N #[.pointer p] w K := by
  obtain ⟨u1, u2, u3⟩ := uVal_err (left := left) (most := 8192) he (by decide)
  refine reloc_Read.ok (num_Reader_Upto_c hR hb hl fun w1 hR1 k1 => ⟨_, rfl, 1, ?_⟩)
  rw [u2, u3] at hR1
  rw [u1, reloc_Read.l0_succ]
  refine condP_f (num_Reader_Err_c hR1 ⟨_, rfl, cond_ne (fun _ => hK w1 hR1 k1) (fun h => absurd h he)⟩)
theorem ref16_Read_err_c (hR : RdV Ty.ref01_Reader w b p left err F) (he : err ≠ 0) (hb : Bytes left) (hl : left.length ≤ 1000000000000000) (hK : ∀ w', RdV Ty.ref01_Reader w' b p left err F → Kp (pt p) w w' → K (.slice none 0 0) w') : CallsE Pg ref16_Read.N #[.pointer p] w K := by
  obtain ⟨u1, u2, u3⟩ := uVal_err (left := left) (most := 8192) he (by decide)
  refine ref16_Read.ok (ref01_Reader_Upto_c hR hb hl (by decide) fun w1 hR1 k1 => ⟨_, rfl, 1, ?_⟩)
  rw [u2, u3] at hR1
  rw [u1]
  show ref16_Read.l0 K (0 + 1) p (IntKind.wrap .i64 0) 0 none 0 0 0 w1
  rw [ref16_Read.l0_succ]
  obtain ⟨a, ea, hc⟩ := hR1.err_cell
  exact condP_f ⟨a, ea, _, hc, cond_ne (fun _ => hK w1 hR1 k1) (fun h => absurd h he)⟩
end
/-! ### images: sizes, and which may be -/
theorem st7 {w : World} {g : Nat} {e : TypeId} {a0 a1 a2 a3 a4 a5 a6 v0 v1 v2 v3 v4 v5 v6 : Value} {Q : World → Prop} (h : Blk w g e [a0, a1, a2, a3, a4, a5, a6]) (hQ : ∀ w', Blk w' g e [v0, v1, v2, v3, v4, v5, v6] → Kp (· = g) w w' → w'.heap.size = w.heap.size → Q w') :
    canStore w ⟨g, 0, none⟩ ∧ wlet (w.setCell ⟨g, 0, none⟩ v0) fun w1 => canStore w1 ⟨g, 1, none⟩ ∧ wlet (w1.setCell ⟨g, 1, none⟩ v1) fun w2 => canStore w2 ⟨g, 2, none⟩ ∧ wlet (w2.setCell ⟨g, 2, none⟩ v2) fun w3 => canStore w3 ⟨g, 3, none⟩ ∧ wlet (w3.setCell ⟨g, 3, none⟩ v3) fun w4 => canStore w4 ⟨g, 4, none⟩ ∧ wlet (w4.setCell ⟨g, 4, none⟩ v4) fun w5 => canStore w5 ⟨g, 5, none⟩ ∧ wlet (w5.setCell ⟨g, 5, none⟩ v5) fun w6 => canStore w6 ⟨g, 6, none⟩ ∧ wlet (w6.setCell ⟨g, 6, none⟩ v6) Q := by
  have e : ∀ k, (⟨g, k, none⟩ : Addr) = (⟨g, 0, none⟩ : Addr).add k := fun k => by rw [add_at, Nat.zero_add]
  rw [e 0, e 1, e 2, e 3, e 4, e 5, e 6]
  refine blk_set1 (k := 0) h (by simp) fun w1 h1 k1 s1 => ?_
  refine blk_set1 (k := 1) h1 (by simp) fun w2 h2 k2 s2 => ?_
  refine blk_set1 (k := 2) h2 (by simp) fun w3 h3 k3 s3 => ?_
  refine blk_set1 (k := 3) h3 (by simp) fun w4 h4 k4 s4 => ?_
  refine blk_set1 (k := 4) h4 (by simp) fun w5 h5 k5 s5 => ?_
  refine blk_set1 (k := 5) h5 (by simp) fun w6 h6 k6 s6 => ?_
  refine blk_set1 (k := 6) h6 (by simp) fun w7 h7 k7 s7 => ?_
  have t : ∀ {a b c : World}, Kp (· = g) a b → Kp (· = g) b c → Kp (· = g) a c := fun h k => h.trans k (fun _ _ h => h) (fun _ _ h => h)
  exact hQ w7 h7 (t (t (t (t (t (t k1 k2) k3) k4) k5) k6) k7) (by rw [s7, s6, s5, s4, s3, s2, s1])
theorem setL_cnt {n : Nat} {l : List Int} (h : riseV n (-1) l = true) : cnt (setL l) 0 n = l.length ∧ l.length ≤ n := by
  have := mem_setL (n := n) l 0 (Nat.zero_le _) h
  rw [Nat.sub_zero] at this
  have e : cnt (setL l) 0 n = l.length := by rw [← memL_len, this]
  have := cnt_le (setL l) n 0
  exact ⟨e, by omega⟩
section
variable {w : World} {pg cl size base : Int} {l offs bytes : List Int} {A B C' : Option Addr} {m c mo co mb cb : Nat} {K : Value → World → Prop}
theorem image_Size_c (hpg : I64 pg) (hcl : I64 cl) (hsize : I64 size) (hx : Cs w A (nums .i64 l)) (hm : m = l.length) (hml : m ≤ 1000000000000000) (hi : ∀ x ∈ l, I64 x) (hK : ∀ w', Below w.heap.size w w' → K (.int .i64 (sizeI pg cl size l)) w') :
    CallsE Pg image_Size.N #[.agg #[.int .i64 pg, .int .i64 cl, .int .i64 size, .slice A m c]] w K := by
  refine image_Size.ok (wlet_intro fun w1 e1 => ?_)
  have b1 : Below w.heap.size w w1 := by rw [e1]; exact (Below.refl _ _).alloc (Nat.le_refl _) _
  have hB : Blk w1 w.heap.size Ty.api_Span [.int .i64 pg, .int .i64 cl, .int .i64 size, .slice A m c] := by rw [e1]; exact Blk.new w _ _
  clear e1
  refine ⟨_, hB.cell' (j := 0) rfl, _, hB.cell' (j := 1) rfl, _, hB.cell' (j := 2) rfl, _, _, _, hB.cell' (j := 3) rfl, ?_⟩
  unfold sizeI at hK
  refine span_Of_c hpg hcl hsize (hx.below b1) hm hml hi (fun w2 he b2 => ⟨_, _, rfl, ?_⟩) (fun w2 p F he hne hr h2 hS b2 => ⟨_, _, rfl, ?_⟩)
  · rw [if_pos he] at hK
    exact cond_ne (fun _ => hK w2 (b1.trans (b2.mono b1.size))) (fun h => absurd h he)
  · rw [if_neg (fun h => h he)] at hK
    have b2' := b1.trans (b2.mono b1.size)
    obtain ⟨_, _, _, _, _, _, hs1, hs2, _, _⟩ := new_ok hne
    have hs := (clsSlots_nat cl).2
    obtain ⟨hc, hc2⟩ := setL_cnt hr
    refine cond_ne (fun h => absurd rfl h) (fun _ => ?_)
    refine span_Span_Live_c h2 hS fun w3 b3 => ⟨_, rfl, span_Span_Size_c (h2.below b3) ⟨_, rfl, ?_⟩⟩
    have hmul : 0 ≤ (l.length : Int) * spSize cl size ∧ (l.length : Int) * spSize cl size ≤ 16 * 4096 := ⟨Int.mul_nonneg (by omega) (by omega), Int.mul_le_mul (by omega) (by omega) (by omega) (by omega)⟩
    rw [hc, wrap64_in (by omega) (by omega)]
    exact hK w3 (b2'.trans (b3.mono b2'.size))
theorem ref17_Size_c (hpg : I64 pg) (hcl : I64 cl) (hsize : I64 size) (hx : Cs w A (nums .i64 l)) (hm : m = l.length) (hml : m ≤ 1000000000000000) (hi : ∀ x ∈ l, I64 x) (hK : ∀ w', Below w.heap.size w w' → K (.int .i64 (sizeI pg cl size l)) w') :
    CallsE Pg ref17_Size.N #[.agg #[.int .i64 pg, .int .i64 cl, .int .i64 size, .slice A m c]] w K := by
  refine ref17_Size.ok (wlet_intro fun w1 e1 => ?_)
  have b1 : Below w.heap.size w w1 := by rw [e1]; exact (Below.refl _ _).alloc (Nat.le_refl _) _
  have hB : Blk w1 w.heap.size Ty.api_Span [.int .i64 pg, .int .i64 cl, .int .i64 size, .slice A m c] := by rw [e1]; exact Blk.new w _ _
  clear e1
  refine ⟨_, hB.cell' (j := 0) rfl, _, hB.cell' (j := 1) rfl, _, hB.cell' (j := 2) rfl, _, _, _, hB.cell' (j := 3) rfl, ?_⟩
  unfold sizeI at hK
  refine ref10_Of_c hpg hcl hsize (hx.below b1) hm hml hi (fun w2 he b2 => ⟨_, _, rfl, ?_⟩) (fun w2 p F he h2 b2 => ⟨_, _, rfl, ?_⟩)
  · rw [if_pos he] at hK
    exact cond_ne (fun _ => hK w2 (b1.trans (b2.mono b1.size))) (fun h => absurd h he)
  · rw [if_neg (fun h => h he)] at hK
    have b2' := b1.trans (b2.mono b1.size)
    have hne : newErr pg cl size = 0 := by
      by_cases h : newErr pg cl size = 0
      · exact h
      · unfold ofErr at he; rw [if_pos h] at he; exact absurd he h
    have hr : riseV (slotsN cl) (-1) l = true := by
      unfold ofErr at he
      rw [if_neg (fun h => h hne)] at he
      by_cases h : riseV (slotsN cl) (-1) l = true
      · exact h
      · rw [if_neg h] at he; cases he
    obtain ⟨_, _, _, _, _, _, hs1, hs2, _, _⟩ := new_ok hne
    have hs := (clsSlots_nat cl).2
    have hc2 := (setL_cnt hr).2
    refine cond_ne (fun h => absurd rfl h) (fun _ => ?_)
    have hB2 := hB.kp (Kp.of_below b2) id
    refine ⟨fun H => H = w2.heap, rfl, _, _, _, fun w' e => held (hB2.cell' (j := 3) rfl) w' e, ref10_Span_Size_c h2 ⟨_, rfl, rfl, ?_⟩⟩
    have hmul : 0 ≤ (m : Int) * spSize cl size ∧ (m : Int) * spSize cl size ≤ 16 * 4096 := ⟨Int.mul_nonneg (by omega) (by omega), Int.mul_le_mul (by omega) (by omega) (by omega) (by omega)⟩
    rw [wrap64_in (by omega) (by omega), hm]
    exact hK w2 b2'
theorem image_Right_c (hpg : I64 pg) (hcl : I64 cl) (hsize : I64 size) (hx : Cs w A (nums .i64 l)) (hm : m = l.length) (hml : m ≤ 1000000000000000) (hi : ∀ x ∈ l, I64 x) (hy : Cs w B (nums .i64 offs)) (hmo : mo = offs.length) (hio : ∀ x ∈ offs, I64 x) (hmb : mb = bytes.length) (hml2 : mb ≤ 1000000000000000)
    (hK : ∀ w', Below w.heap.size w w' → K (.bool (rightI ⟨pg, cl, size, l, base, offs, bytes⟩)) w') :
    CallsE Pg image_Right.N #[.agg #[.int .i64 pg, .int .i64 cl, .int .i64 size, .slice A m c, .int .i64 base, .slice B mo co, .slice C' mb cb]] w K := by
  refine image_Right.ok (wlet_intro fun w1 e1 => ?_)
  have b1 : Below w.heap.size w w1 := by rw [e1]; exact (Below.refl _ _).alloc (Nat.le_refl _) _
  have hB : Blk w1 w.heap.size Ty.image_Image [.int .i64 pg, .int .i64 cl, .int .i64 size, .slice A m c, .int .i64 base, .slice B mo co, .slice C' mb cb] := by rw [e1]; exact Blk.new w _ _
  clear e1
  have cells : ∀ (j : Nat) (v : Value), ([.int .i64 pg, .int .i64 cl, .int .i64 size, .slice A m c, .int .i64 base, .slice B mo co, .slice C' mb cb] : List Value)[j]? = some v → ∀ w' : World, w'.heap[w.heap.size]? = some (.cells ⟨[.int .i64 pg, .int .i64 cl, .int .i64 size, .slice A m c, .int .i64 base, .slice B mo co, .slice C' mb cb]⟩ Ty.image_Image (0, 0)) → w'.cell? ⟨w.heap.size, j, none⟩ = some v := fun j v hv w' hh => Blk.cell' (show Blk w' w.heap.size Ty.image_Image [.int .i64 pg, .int .i64 cl, .int .i64 size, .slice A m c, .int .i64 base, .slice B mo co, .slice C' mb cb] from hh) hv
  refine ⟨_, hB.cell' (j := 0) rfl, _, hB.cell' (j := 1) rfl, _, hB.cell' (j := 2) rfl, _, _, _, hB.cell' (j := 3) rfl, ?_⟩
  unfold rightI at hK
  simp only at hK
  have go : ∀ w2, Below w.heap.size w w2 → Blk w2 w.heap.size Ty.image_Image [.int .i64 pg, .int .i64 cl, .int .i64 size, .slice A m c, .int .i64 base, .slice B mo co, .slice C' mb cb] → (∀ w', Below w.heap.size w w' → K (.bool (decide ((bytes.length : Int) = sizeI pg cl size l) && (rightV offs bytes.length && (goodV base || (offs.isEmpty && decide (base = 0)))))) w') → image_Right.p1 K ⟨w.heap.size, 0, none⟩ w2 := fun w2 b2 hB2 hK2 => by
    refine ⟨fun H => H[w.heap.size]? = some (.cells ⟨[.int .i64 pg, .int .i64 cl, .int .i64 size, .slice A m c, .int .i64 base, .slice B mo co, .slice C' mb cb]⟩ Ty.image_Image (0, 0)), hB2, _, _, _, cells 6 _ rfl, _, cells 0 _ rfl, _, cells 1 _ rfl, _, cells 2 _ rfl, _, _, _, cells 3 _ rfl, ?_⟩
    refine image_Size_c hpg hcl hsize (hx.below b2) hm hml hi fun w3 b3 => ⟨_, rfl, hB2.kp (Kp.of_below b3) id, ?_⟩
    have b3' := b2.trans (b3.mono b2.size)
    have hB3 := hB2.kp (Kp.of_below b3) id
    refine cond_eq (fun he => ?_) (fun he => ?_)
    · rw [decide_eq_true (by omega), Bool.true_and] at hK2
      refine ⟨_, _, _, cells 5 _ rfl, _, _, _, cells 6 _ rfl, reloc_Right_c (hy.below b3') hmo ⟨by omega, by omega⟩ hio ⟨_, rfl, hB3, ?_⟩⟩
      rw [← hmb] at hK2
      cases hr : rightV offs mb with
      | false => rw [hr] at hK2; exact hK2 w3 b3'
      | true =>
        rw [hr, Bool.true_and] at hK2
        refine condP_t ⟨_, cells 4 _ rfl, arena_Good_c ⟨_, rfl, hB3, ?_⟩⟩
        cases hg : goodV base with
        | true => rw [hg] at hK2; exact hK2 w3 b3'
        | false =>
          rw [hg, Bool.false_or] at hK2
          refine condP_f ⟨_, _, _, cells 5 _ rfl, cond_eq (fun h0 => ⟨_, cells 4 _ rfl, ?_⟩) (fun h0 => ?_)⟩
          · have e0 : offs = [] := by
              cases offs with
              | nil => rfl
              | cons a b => simp at hmo; omega
            rw [e0] at hK2
            have e1 : ((base == (0 : Int))) = decide (base = 0) := by
              by_cases hb : base = 0
              · rw [hb]; rfl
              · rw [decide_eq_false hb]; simpa using hb
            show K (.bool (base == (0 : Int))) w3
            rw [e1]
            exact hK2 w3 b3'
          · have e0 : offs.isEmpty = false := by
              cases offs with
              | nil => exact absurd (by rw [hmo]; rfl) h0
              | cons a b => rfl
            rw [e0] at hK2
            exact hK2 w3 b3'
    · rw [decide_eq_false (by omega)] at hK2
      exact hK2 w3 b3'
  refine span_Of_c hpg hcl hsize (hx.below b1) hm hml hi (fun w2 he b2 => ⟨_, _, rfl, ?_⟩) (fun w2 p F he hne hr h2 hS b2 => ⟨_, _, rfl, ?_⟩)
  · rw [decide_eq_false he] at hK
    exact cond_ne (fun _ => hK w2 (b1.trans (b2.mono b1.size))) (fun h => absurd h he)
  · rw [decide_eq_true he, Bool.true_and] at hK
    refine cond_ne (fun h => absurd rfl h) (fun _ => ?_)
    exact go w2 (b1.trans (b2.mono b1.size)) (hB.kp (Kp.of_below b2) id) hK
theorem ref17_Right_c (hpg : I64 pg) (hcl : I64 cl) (hsize : I64 size) (hx : Cs w A (nums .i64 l)) (hm : m = l.length) (hml : m ≤ 1000000000000000) (hi : ∀ x ∈ l, I64 x) (hy : Cs w B (nums .i64 offs)) (hmo : mo = offs.length) (hio : ∀ x ∈ offs, I64 x) (hmb : mb = bytes.length) (hml2 : mb ≤ 1000000000000000)
    (hK : ∀ w', Below w.heap.size w w' → K (.bool (rightI ⟨pg, cl, size, l, base, offs, bytes⟩)) w') :
    CallsE Pg ref17_Right.N #[.agg #[.int .i64 pg, .int .i64 cl, .int .i64 size, .slice A m c, .int .i64 base, .slice B mo co, .slice C' mb cb]] w K := by
  refine ref17_Right.ok (wlet_intro fun w1 e1 => ?_)
  have b1 : Below w.heap.size w w1 := by rw [e1]; exact (Below.refl _ _).alloc (Nat.le_refl _) _
  have hB : Blk w1 w.heap.size Ty.ref17_Image [.int .i64 pg, .int .i64 cl, .int .i64 size, .slice A m c, .int .i64 base, .slice B mo co, .slice C' mb cb] := by rw [e1]; exact Blk.new w _ _
  clear e1
  have cells : ∀ (j : Nat) (v : Value), ([.int .i64 pg, .int .i64 cl, .int .i64 size, .slice A m c, .int .i64 base, .slice B mo co, .slice C' mb cb] : List Value)[j]? = some v → ∀ w' : World, w'.heap[w.heap.size]? = some (.cells ⟨[.int .i64 pg, .int .i64 cl, .int .i64 size, .slice A m c, .int .i64 base, .slice B mo co, .slice C' mb cb]⟩ Ty.ref17_Image (0, 0)) → w'.cell? ⟨w.heap.size, j, none⟩ = some v := fun j v hv w' hh => Blk.cell' (show Blk w' w.heap.size Ty.ref17_Image [.int .i64 pg, .int .i64 cl, .int .i64 size, .slice A m c, .int .i64 base, .slice B mo co, .slice C' mb cb] from hh) hv
  refine ⟨_, hB.cell' (j := 0) rfl, _, hB.cell' (j := 1) rfl, _, hB.cell' (j := 2) rfl, _, _, _, hB.cell' (j := 3) rfl, ?_⟩
  unfold rightI at hK
  simp only at hK
  refine ref10_Of_c hpg hcl hsize (hx.below b1) hm hml hi (fun w2 he b2 => ⟨_, _, rfl, ?_⟩) (fun w2 p F he h2 b2 => ⟨_, _, rfl, ?_⟩)
  · rw [decide_eq_false he] at hK
    refine ⟨fun H => H = w2.heap, rfl, cond_ne (fun _ => hK w2 (b1.trans (b2.mono b1.size))) (fun h => absurd h he)⟩
  · rw [decide_eq_true he, Bool.true_and] at hK
    have b2' := b1.trans (b2.mono b1.size)
    have hB2 := hB.kp (Kp.of_below b2) id
    refine ⟨fun H => H[w.heap.size]? = some (.cells ⟨[.int .i64 pg, .int .i64 cl, .int .i64 size, .slice A m c, .int .i64 base, .slice B mo co, .slice C' mb cb]⟩ Ty.ref17_Image (0, 0)), hB2, cond_ne (fun h => absurd rfl h) (fun _ => ?_)⟩
    refine ⟨_, _, _, cells 6 _ rfl, _, cells 0 _ rfl, _, cells 1 _ rfl, _, cells 2 _ rfl, _, _, _, cells 3 _ rfl, ?_⟩
    refine ref17_Size_c hpg hcl hsize (hx.below b2') hm hml hi fun w3 b3 => ⟨_, rfl, hB2.kp (Kp.of_below b3) id, ?_⟩
    have b3' := b2'.trans (b3.mono b2'.size)
    have hB3 := hB2.kp (Kp.of_below b3) id
    refine cond_ne (fun he => ?_) (fun he => ?_)
    · rw [decide_eq_false (by omega)] at hK
      exact hK w3 b3'
    · rw [decide_eq_true (by omega), Bool.true_and] at hK
      refine ⟨_, _, _, cells 5 _ rfl, _, _, _, cells 6 _ rfl, ref16_Right_c (hy.below b3') hmo ⟨by omega, by omega⟩ hio ⟨_, rfl, hB3, ?_⟩⟩
      rw [← hmb] at hK
      cases hr : rightV offs mb with
      | false => rw [hr] at hK; exact hK w3 b3'
      | true =>
        rw [hr, Bool.true_and] at hK
        refine ⟨_, hB3.cell' (j := 4) rfl, ref08_Good_c ⟨_, rfl, ?_⟩⟩
        cases hg : goodV base with
        | true => rw [hg] at hK; exact hK w3 b3'
        | false =>
          rw [hg, Bool.false_or] at hK
          refine condP_f ⟨_, _, _, hB3.cell' (j := 5) rfl, cond_eq (fun h0 => ⟨_, hB3.cell' (j := 4) rfl, ?_⟩) (fun h0 => ?_)⟩
          · have e0 : offs = [] := by
              cases offs with
              | nil => rfl
              | cons a b => simp at hmo; omega
            rw [e0] at hK
            have e1 : ((base == (0 : Int))) = decide (base = 0) := by
              by_cases hb : base = 0
              · rw [hb]; rfl
              · rw [decide_eq_false hb]; simpa using hb
            show K (.bool (base == (0 : Int))) w3
            rw [e1]
            exact hK w3 b3'
          · have e0 : offs.isEmpty = false := by
              cases offs with
              | nil => exact absurd (by rw [hmo]; rfl) h0
              | cons a b => rfl
            rw [e0] at hK
            exact hK w3 b3'
end

end Go.Proofs.YtogmnhdadggnbaaDoor.C
