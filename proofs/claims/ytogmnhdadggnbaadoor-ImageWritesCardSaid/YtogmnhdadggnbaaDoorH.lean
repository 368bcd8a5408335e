/-
  Parts of the proofs of this seat: what the functions compute. No condition beyond what each theorem states.
-/
import Derived.Test.YtogmnhdadggnbaaDoorF
import Derived.Test.YtogmnhdadggnbaaDoorRK
import Derived.Test.YtogmnhdadggnbaaDoorA
import Derived.Test.YtogmnhdadggnbaaDoorB
import Derived.Test.YtogmnhdadggnbaaDoorC
import Derived.Test.YtogmnhdadggnbaaDoorD
import Derived.Test.YtogmnhdadggnbaaDoorE
import Derived.Test.YtogmnhdadggnbaaDoorG
set_option linter.unusedVariables false
set_option linter.unusedSimpArgs false
set_option maxRecDepth 100000
namespace Go.Proofs.YtogmnhdadggnbaaDoor.C
open Go Go.RowKit Go.Proofs.YtogmnhdadggnbaaDoor Go.Proofs.YtogmnhdadggnbaaDoor.Sh Go.Proofs.YtogmnhdadggnbaaDoor.F Go.Proofs.YtogmnhdadggnbaaDoor.R

theorem tabB_bytes {l : List Int} (hr : rightV l 65535 = true) : Bytes (tabB l) := by
  unfold rightV at hr
  by_cases hl : 8192 < l.length
  · rw [if_pos hl] at hr; cases hr
  rw [if_neg hl] at hr
  intro y hy
  rcases List.mem_append.1 hy with hy | hy
  · exact varB_bytes ⟨by omega, by omega⟩ y hy
  · exact encT_bytes l 0 (by decide) hr y hy
theorem encT_len : ∀ (l : List Int) (next : Int), (encT next l).length ≤ 10 * l.length
  | [], _ => Nat.le_refl _
  | x :: l, next => by
    have := varF_len 9 ((x - next) / 8)
    have ih := encT_len l (x + 8)
    rw [encT, List.length_append, List.length_cons]
    unfold varB; omega
theorem tabB_len {l : List Int} : (tabB l).length ≤ 10 * l.length + 10 := by
  have := varF_len 9 (l.length : Int)
  have := encT_len l 0
  unfold tabB varB
  rw [List.length_append]; omega
theorem right_i64 : ∀ (l : List Int) (next : Int), 0 ≤ next → rightFrom 65535 next l = true → ∀ x ∈ l, I64 x
  | [], _, _, _ => fun x hx => by cases hx
  | y :: l, next, h0, h => by
    obtain ⟨h1, h2, h3, h4⟩ := right_cons (nb := 65535) h0 h
    intro x hx
    rcases List.mem_cons.1 hx with rfl | hx
    · exact ⟨by omega, by omega⟩
    · exact right_i64 l (y + 8) (by omega) h4 x hx
/-- A reader of the document, newly made over an own row. -/
theorem ref_new {w w' : World} {A : Option Addr} {n c b : Nat} {bs : List Int} (ho : w.ownsRow b Ty.uint8 1 (.slice A n c) n (nums .u8 bs)) (hb : b ≤ w.heap.size) (hn : n = bs.length) (h : w' = w.alloc (.cells #[.slice A n c, .int .i64 0] Ty.ref01_Reader)) :
    RdV Ty.ref01_Reader w' b (some ⟨w.heap.size, 0, none⟩) bs 0 (fun i => i = w.heap.size ∨ A.map (·.block) = some i) ∧ Below w.heap.size w w' := by
  have hal : Below w.heap.size w w' := by rw [h]; exact (Below.refl _ _).alloc (Nat.le_refl _) _
  have hB : Blk w' w.heap.size Ty.ref01_Reader [.slice A n c, .int .i64 0] := by rw [h]; exact Blk.new w Ty.ref01_Reader _
  clear h
  have ho5 := own_below_kp ho hal
  have hmc : n ≤ c := by obtain ⟨_, _, e, h, _⟩ := own_form ho; cases e; exact h
  refine ⟨⟨w.heap.size, A, c, rfl, hb, by rw [← hn]; exact hB, by omega, Cs.ofOwn ho5, fun g hg => ?_, rfl⟩, hal⟩
  cases A with
  | none => cases hg
  | some a =>
    have := own_lt ho (g := g) hg
    have := hal.size
    exact ⟨by omega, by omega, by omega⟩
/-! ### an image, read -/
def tOffs (left : List Int) (err : Int) : List Int := if err ≠ 0 then [] else readV left
def tL (left : List Int) (err : Int) : List Int := if err ≠ 0 then left else (readT left).2.2
def tE (left : List Int) (err : Int) : Int := if err ≠ 0 then err else (readT left).2.1
/-- What is behind the head: the base, the table, the bytes. -/
def tVal (pg cl size : Int) (l left : List Int) (err : Int) : ImgV :=
  ⟨pg, cl, size, l, 256 * uVal left err 4294967296, tOffs (uLeft left err 4294967296) (uErr left err 4294967296),
    bOut (tL (uLeft left err 4294967296) (uErr left err 4294967296)) (tE (uLeft left err 4294967296) (uErr left err 4294967296)) (sizeI pg cl size l)⟩
def tEnd (pg cl size : Int) (l left : List Int) (err : Int) : Int :=
  endV (bLeft (tL (uLeft left err 4294967296) (uErr left err 4294967296)) (tE (uLeft left err 4294967296) (uErr left err 4294967296)) (sizeI pg cl size l))
    (bErr (tL (uLeft left err 4294967296) (uErr left err 4294967296)) (tE (uLeft left err 4294967296) (uErr left err 4294967296)) (sizeI pg cl size l))
def tErr (pg cl size : Int) (l left : List Int) (err : Int) : Int := if tEnd pg cl size l left err ≠ 0 then tEnd pg cl size l left err else if rightI (tVal pg cl size l left err) = true then 0 else 4
def iErr (bs : List Int) : Int := if hErr bs ≠ 0 then hErr bs else tErr (hPg bs) (hCl bs) (hSize bs) (hLive bs) (hLeft bs) 0
def iRes (bs : List Int) : ImgV := if iErr bs ≠ 0 then img0 else tVal (hPg bs) (hCl bs) (hSize bs) (hLive bs) (hLeft bs) 0
theorem tEnd_err {pg cl size : Int} {l left : List Int} {err : Int} (h : err ≠ 0) : tEnd pg cl size l left err = err := by
  obtain ⟨_, e1, e2⟩ := uVal_err (left := left) (most := 4294967296) h (by decide)
  unfold tEnd
  rw [e1, e2]
  unfold tL tE
  rw [if_pos h, if_pos h, (b_err h).2.1, (b_err h).2.2]
  unfold endV
  rw [if_neg (fun h' => h h'.1)]
theorem tErr_err {pg cl size : Int} {l left : List Int} {err : Int} (h : err ≠ 0) : tErr pg cl size l left err = err := by
  unfold tErr
  rw [tEnd_err h, if_pos h]
theorem readT_len (left : List Int) (hb : Bytes left) : (readV left).length ≤ 8192 := by
  have hu := uVal_range (err := 0) (most := 8192) hb (by decide)
  have := (readF_len (uVal left 0 8192).toNat 0 (uLeft left 0 8192) (uErr left 0 8192)).1
  unfold readV readT
  split
  · exact Nat.zero_le _
  · omega
theorem size_I {pg cl size : Int} {l : List Int} : 0 ≤ sizeI pg cl size l ∧ sizeI pg cl size l ≤ 65536 := by
  unfold sizeI
  split
  · exact ⟨by decide, by decide⟩
  · rename_i he
    have he : ofErr pg cl size l = 0 := by omega
    have hne : newErr pg cl size = 0 := by
      by_cases h : newErr pg cl size = 0
      · exact h
      · unfold ofErr at he; rw [if_pos h] at he; exact absurd he h
    have hr : riseV (slotsN cl) (-1) l = true := by
      unfold ofErr at he
      rw [if_neg (fun h => h hne)] at he
      by_cases h : riseV (slotsN cl) (-1) l = true
      · exact h
      · rw [if_neg h] at he; cases he
    obtain ⟨_, _, _, _, _, _, hs1, hs2, _, _⟩ := new_ok hne
    have hs := (clsSlots_nat cl).2
    have hc2 := (setL_cnt hr).2
    refine ⟨Int.mul_nonneg (by omega) (by omega), ?_⟩
    show _ ≤ (16 : Int) * 4096
    exact Int.mul_le_mul (by omega) (by omega) (by omega) (by omega)
section
variable {w : World} {b : Nat} {p : Option Addr} {left : List Int} {err : Int} {F : Nat → Prop} {K : Value → World → Prop}
theorem reloc_Read_any_c (hR : RdV Ty.num_Reader w b p left err F) (hb : Bytes left) (hl : left.length ≤ 1000000000000000)
    (hK : ∀ B m cb w', m = (tOffs left err).length → w'.ownsRow w.heap.size Ty.int 1 (.slice B m cb) m (nums .i64 (tOffs left err)) → RdV Ty.num_Reader w' b p (tL left err) (tE left err) F → Kp (pt p) w w' → K (.slice B m cb) w') : CallsE Pg reloc_Read.N #[.pointer p] w K := by
  unfold tOffs tL tE at hK
  by_cases h : err ≠ 0
  · rw [if_pos h, if_pos h, if_pos h] at hK
    exact reloc_Read_err_c hR h hb hl fun w' hR' k => hK _ _ _ w' rfl (World.ownsRow_nil _ _ _ _) hR' k
  · rw [if_neg h, if_neg h, if_neg h] at hK
    have h0 : err = 0 := by omega
    subst h0
    exact reloc_Read_c hR hb hl hK
theorem ref16_Read_any_c (hR : RdV Ty.ref01_Reader w b p left err F) (hb : Bytes left) (hl : left.length ≤ 1000000000000000)
    (hK : ∀ B m cb w', m = (tOffs left err).length → w'.ownsRow w.heap.size Ty.int 1 (.slice B m cb) m (nums .i64 (tOffs left err)) → RdV Ty.ref01_Reader w' b p (tL left err) (tE left err) F → Kp (pt p) w w' → K (.slice B m cb) w') : CallsE Pg ref16_Read.N #[.pointer p] w K := by
  unfold tOffs tL tE at hK
  by_cases h : err ≠ 0
  · rw [if_pos h, if_pos h, if_pos h] at hK
    exact ref16_Read_err_c hR h hb hl fun w' hR' k => hK _ _ _ w' rfl (World.ownsRow_nil _ _ _ _) hR' k
  · rw [if_neg h, if_neg h, if_neg h] at hK
    have h0 : err = 0 := by omega
    subst h0
    exact ref16_Read_c hR hb hl hK
end
theorem end_0 {left : List Int} {err : Int} (h : endV left err = 0) : err = 0 ∧ left = [] := by
  unfold endV at h
  by_cases hc : err = 0 ∧ 0 < left.length
  · rw [if_pos hc] at h; cases h
  · rw [if_neg hc] at h
    refine ⟨h, ?_⟩
    cases left with
    | nil => rfl
    | cons a l => exact absurd ⟨h, by simp⟩ hc
theorem bErr_0 {left : List Int} {err n : Int} (h : bErr left err n = 0) : err = 0 := by
  by_cases he : err = 0
  · exact he
  · rw [(b_err he).2.1] at h; exact h
/-- What is known where the end is reached without a fault. -/
theorem tEnd_0 {pg cl size : Int} {l left : List Int} {err : Int} (hb : Bytes left) (h : tEnd pg cl size l left err = 0) :
    err = 0 ∧ uErr left err 4294967296 = 0 ∧ rightV (tVal pg cl size l left err).offs 65535 = true ∧
      uLeft left err 4294967296 = tabB (tVal pg cl size l left err).offs ++ (tVal pg cl size l left err).bytes ∧ ((tVal pg cl size l left err).bytes.length : Int) = sizeI pg cl size l := by
  have herr : err = 0 := by
    by_cases he : err = 0
    · exact he
    · rw [tEnd_err he] at h; exact absurd h he
  unfold tEnd at h
  obtain ⟨h1, h2⟩ := end_0 h
  have h3 := bErr_0 h1
  have hu : uErr left err 4294967296 = 0 := by
    by_cases he : uErr left err 4294967296 = 0
    · exact he
    · unfold tE at h3; rw [if_pos he] at h3; exact h3
  rw [h3] at h1 h2
  have h3' : (readT (uLeft left err 4294967296)).2.1 = 0 := by unfold tE at h3; rw [if_neg (fun h => h hu)] at h3; exact h3
  have e1 : tL (uLeft left err 4294967296) (uErr left err 4294967296) = (readT (uLeft left err 4294967296)).2.2 := by unfold tL; rw [if_neg (fun h => h hu)]
  have e2 : tOffs (uLeft left err 4294967296) (uErr left err 4294967296) = (readT (uLeft left err 4294967296)).1 := by
    unfold tOffs; rw [if_neg (fun h => h hu)]; unfold readV; rw [if_neg (fun h => h h3')]
  obtain ⟨r1, r2⟩ := readT_one (out := (readT (uLeft left err 4294967296)).1) (left' := (readT (uLeft left err 4294967296)).2.2) (uLeft_bytes hb) (by
    cases hr : readT (uLeft left err 4294967296) with
    | mk a r => cases r with
      | mk b c => rw [hr] at h3'; simp only at h3'; rw [h3'])
  obtain ⟨s1, s2⟩ := b_len h1 size_I.1
  refine ⟨herr, hu, ?_, ?_, ?_⟩
  · show rightV (tOffs _ _) 65535 = true
    rw [e2]; exact r1
  · show _ = tabB (tOffs _ _) ++ bOut (tL _ _) (tE _ _) _
    rw [e2, h3]
    rw [h2, List.append_nil] at s2
    rw [← s2, e1]; exact r2
  · show ((bOut (tL _ _) (tE _ _) _).length : Int) = _
    rw [h3, s1]; have := (@size_I pg cl size l).1; omega
theorem right_I {l : List Int} (h : rightV l 65535 = true) : ∀ x ∈ l, I64 x := by
  unfold rightV at h
  by_cases hl : 8192 < l.length
  · rw [if_pos hl] at h; cases h
  · rw [if_neg hl] at h; exact right_i64 l 0 (by decide) h
theorem memL_lt {S : Nat → Bool} : ∀ (n b : Nat), ∀ x ∈ memL S b n, (b : Int) ≤ x ∧ x < b + n
  | 0, _ => fun x hx => by cases hx
  | n + 1, b => fun x hx => by
    have ih := memL_lt (S := S) n (b + 1) x
    rw [memL] at hx
    split at hx
    · rcases List.mem_cons.1 hx with h | h
      · omega
      · have := ih h; omega
    · have := ih hx; omega
theorem memL_I {S : Nat → Bool} {n : Nat} (hn : n ≤ 1000) : ∀ x ∈ memL S 0 n, I64 x := fun x hx => by
  have := memL_lt n 0 x hx
  exact ⟨by omega, by omega⟩
section
variable {w : World} {b : Nat} {p : Option Addr} {F : Nat → Prop} {bs : List Int} {K : Value → World → Prop}
theorem image_head_any_c (hR : RdV Ty.num_Reader w b p bs 0 F) (hb : Bytes bs) (hl : bs.length ≤ 140737488351232) (hT : Tab w) (hbT : gTab < b)
    (hK : ∀ a1 a2 a3 l A m c left e w', (hErr bs ≠ 0 → e = hErr bs) → (hErr bs = 0 → a1 = hPg bs ∧ a2 = hCl bs ∧ a3 = hSize bs ∧ l = hLive bs ∧ left = hLeft bs ∧ e = 0) → I64 a1 → I64 a2 → I64 a3 → m = l.length → l.length ≤ 16 → (∀ x ∈ l, I64 x) →
      w'.ownsRow w.heap.size Ty.int 1 (.slice A m c) m (nums .i64 l) → RdV Ty.num_Reader w' b p left e F → Bytes left → left.length ≤ bs.length → Kp (pt p) w w' → K (.agg #[.int .i64 a1, .int .i64 a2, .int .i64 a3, .slice A m c]) w') :
    CallsE Pg image_head.N #[.pointer p] w K := by
  obtain ⟨r1, r2, r3⟩ := hrange bs hb
  have hs := clsSlots_le (hCl bs)
  refine image_head_c hR hb hl hT hbT (fun w' a1 a2 a3 left' he i1 i2 i3 hR' hb' hl' k => ?_) (fun he A m c w' hm o hR' k => ?_)
  · exact hK a1 a2 a3 [] none 0 0 left' _ w' (fun _ => rfl) (fun h => absurd h he) i1 i2 i3 rfl (by simp) (fun x hx => by cases hx) (World.ownsRow_nil _ _ _ _) hR' hb' hl' k
  · have hll : (hLive bs).length ≤ 16 := by
      have := @memL_le (bitsOf (hBits bs)) 0 (slotsN (hCl bs))
      unfold hLive; omega
    exact hK _ _ _ _ A m c _ _ w' (fun h => absurd he h) (fun _ => ⟨rfl, rfl, rfl, rfl, rfl, rfl⟩) ⟨by omega, by omega⟩ ⟨by omega, by omega⟩ ⟨by omega, by omega⟩ hm hll (memL_I (by omega)) o hR' (bLeft_bytes (uLeft_bytes (uLeft_bytes (uLeft_bytes hb))))
      (Nat.le_trans bLeft_len (Nat.le_trans uLeft_len (Nat.le_trans uLeft_len uLeft_len))) k
theorem t_of_head {a1 a2 a3 e : Int} {l left : List Int} (h1 : hErr bs ≠ 0 → e = hErr bs) (h2 : hErr bs = 0 → a1 = hPg bs ∧ a2 = hCl bs ∧ a3 = hSize bs ∧ l = hLive bs ∧ left = hLeft bs ∧ e = 0) :
    iErr bs = tErr a1 a2 a3 l left e ∧ iRes bs = if tErr a1 a2 a3 l left e ≠ 0 then img0 else tVal a1 a2 a3 l left e := by
  by_cases h : hErr bs ≠ 0
  · have e0 := h1 h
    have hi : iErr bs = hErr bs := by unfold iErr; rw [if_pos h]
    have he : tErr a1 a2 a3 l left e = hErr bs := by rw [tErr_err (by rw [e0]; exact h), e0]
    refine ⟨by rw [hi, he], ?_⟩
    unfold iRes
    rw [hi, he, if_pos h, if_pos h]
  · obtain ⟨rfl, rfl, rfl, rfl, rfl, rfl⟩ := h2 (by omega)
    have hi : iErr bs = tErr (hPg bs) (hCl bs) (hSize bs) (hLive bs) (hLeft bs) 0 := by unfold iErr; rw [if_neg h]
    refine ⟨hi, ?_⟩
    unfold iRes
    rw [hi]
theorem image_Read_c {A : Option Addr} {n c : Nat} (hx : Cs w A (nums .u8 bs)) (hn : n = bs.length) (hb : Bytes bs) (hl : n ≤ 140737488351232) (hT : Tab w)
    (hK : ∀ A m c B mo co D mb cb w', m = (iRes bs).live.length → mo = (iRes bs).offs.length → mb = (iRes bs).bytes.length → w'.ownsRow w.heap.size Ty.int 1 (.slice A m c) m (nums .i64 (iRes bs).live) → w'.ownsRow w.heap.size Ty.int 1 (.slice B mo co) mo (nums .i64 (iRes bs).offs) → w'.ownsRow w.heap.size Ty.uint8 1 (.slice D mb cb) mb (nums .u8 (iRes bs).bytes) →
      Below w.heap.size w w' → K (.tuple #[.agg #[.int .i64 (iRes bs).pg, .int .i64 (iRes bs).cl, .int .i64 (iRes bs).size, .slice A m c, .int .i64 (iRes bs).base, .slice B mo co, .slice D mb cb], .int .i64 (iErr bs)]) w') :
    CallsE Pg image_Read.N #[.slice A n c] w K := by
  refine image_Read.ok (wlet_intro fun w1 e1 => ?_)
  have b1 : Below w.heap.size w w1 := by rw [e1]; exact (Below.refl _ _).alloc (Nat.le_refl _) _
  have hB1 : Blk w1 w.heap.size Ty.image_Image [.int .i64 0, .int .i64 0, .int .i64 0, .slice none 0 0, .int .i64 0, .slice none 0 0, .slice none 0 0] := by rw [e1]; exact Blk.new w _ _
  clear e1
  have s1 := hB1.lt
  refine num_Open_c (hx.below b1) hn (by omega) fun w2 p F hR2 b2 => ⟨_, rfl, ?_⟩
  have b2' := b1.trans (b2.mono b1.size)
  have hT2 : Tab w2 := hT.below b2' hT.lt
  have hFl : ∀ i, F i → w1.heap.size ≤ i ∧ i < w2.heap.size := fun i hi => hR2.lt hi
  have hTl := hT.lt
  have s12 := b2.size
  have hB2 := hB1.kp (Kp.of_below b2) id
  refine image_head_any_c hR2 hb (by omega) hT2 (by omega) fun a1 a2 a3 l A3 m3 c3 left e w3 hh1 hh2 i1 i2 i3 hm3 hl16 hi3 o3 hR3 hb3 hl3 k3 => ⟨_, _, _, _, _, _, rfl, ?_⟩
  obtain ⟨hiE, hiR⟩ := t_of_head hh1 hh2
  rw [hiR, hiE] at hK
  have hpF : ∀ i, pt p i → F i := fun i h => hR2.pt h
  have hp0 : ¬ pt p w.heap.size := fun h => by have := hFl _ (hpF _ h); omega
  have hB3 := hB2.kp k3 hp0
  have s2 := b2'.size
  have s3 := k3.size
  refine wlet_intro fun w4 e4 => ?_
  have b4 : Below w3.heap.size w3 w4 := by rw [e4]; exact (Below.refl _ _).alloc (Nat.le_refl _) _
  have hM4 : Blk w4 w3.heap.size Ty.image_Image [.int .i64 0, .int .i64 0, .int .i64 0, .slice none 0 0, .int .i64 0, .slice none 0 0, .slice none 0 0] := by rw [e4]; exact Blk.new w3 _ _
  clear e4
  have s4 := b4.size
  generalize hg4 : w3.heap.size = g4 at hM4 ⊢
  have s34 := hM4.lt
  refine st7 hM4 fun w5 hM5 k5 s5 => ?_
  have hpM : ¬ pt p g4 := fun h => by have := hFl _ (hpF _ h); omega
  have hFM : ∀ i, F i → ¬ i = g4 := fun i h e => by have := hFl _ h; omega
  have hR5 := (hR3.below b4).kp k5 hFM
  have hB5 := (hB3.kp (Kp.of_below b4) id).kp k5 (by omega)
  have hA3 : ∀ g, (Value.slice A3 m3 c3).ownBlock = some g → ¬ g = g4 := fun g hg => by have := (own_lt o3 hg).2; omega
  have hA3p : ∀ g, (Value.slice A3 m3 c3).ownBlock = some g → ¬ pt p g := fun g hg h => by have := (own_lt o3 hg).1; have := hFl _ (hpF _ h); omega
  have o5 := own_kp (own_below_kp o3 b4) k5 hA3
  refine num_Reader_Upto_c hR5 hb3 (by omega) fun w6 hR6 k6 => ⟨_, rfl, ?_⟩
  have hu := uVal_range (left := left) (err := e) (most := 4294967296) hb3 (by decide)
  have eb : IntKind.wrap .i64 (IntKind.wrap .i64 (uVal left e 4294967296) * 256) = 256 * uVal left e 4294967296 := by
    rw [wrap64_in (x := uVal left e 4294967296) (by omega) (by omega), wrap64_in (by omega) (by omega), Int.mul_comm]
  rw [eb]
  have o6 := own_kp o5 k6 hA3p
  refine blk_set1 (k := 4) (hM5.kp k6 hpM) (by simp) fun w7 hM7 k7 s7 => ?_
  have hB7 := (hB5.kp k6 hp0).kp k7 (by omega)
  have o7 := own_kp o6 k7 hA3
  have s6 := k6.size
  refine reloc_Read_any_c (hR6.kp k7 hFM) (uLeft_bytes hb3) (Nat.le_trans uLeft_len (by omega)) fun A8 m8 c8 w8 hm8 o8 hR8 k8 => ⟨_, _, _, rfl, ?_⟩
  have hA8 : ∀ g, (Value.slice A8 m8 c8).ownBlock = some g → ¬ g = g4 := fun g hg => by have := (own_lt o8 hg).1; omega
  have hA8p : ∀ g, (Value.slice A8 m8 c8).ownBlock = some g → ¬ pt p g := fun g hg h => by have := (own_lt o8 hg).1; have := hFl _ (hpF _ h); omega
  have o38 := own_kp o7 k8 hA3p
  refine blk_set1 (k := 5) (hM7.kp k8 hpM) (by simp) fun w9 hM9 k9 s9 => ?_
  have hB9 := (hB7.kp k8 hp0).kp k9 (by omega)
  have o9 := own_kp o38 k9 hA3
  have o89 := own_kp o8 k9 hA8
  have hR9 := hR8.kp k9 hFM
  refine ⟨_, hM9.cell' (j := 0) rfl, _, hM9.cell' (j := 1) rfl, _, hM9.cell' (j := 2) rfl, _, _, _, hM9.cell' (j := 3) rfl, ?_⟩
  refine image_Size_c i1 i2 i3 (Cs.ofOwn o9) hm3 (by omega) hi3 fun w10 b10 => ⟨_, rfl, ?_⟩
  have s8 := k8.size
  have hll : (tL (uLeft left e 4294967296) (uErr left e 4294967296)).length ≤ left.length := by
    unfold tL
    split
    · exact uLeft_len
    · exact Nat.le_trans (readF_len _ _ _ _).2 (Nat.le_trans uLeft_len uLeft_len)
  refine num_Reader_Bytes_c (hR9.below b10) (by omega) fun A11 c11 w11 hR11 o11 k11 => ⟨_, _, _, rfl, ?_⟩
  have s10 := b10.size
  have s11 := k11.size
  have hA11 : ∀ g, (Value.slice A11 (bOut (tL (uLeft left e 4294967296) (uErr left e 4294967296)) (tE (uLeft left e 4294967296) (uErr left e 4294967296)) (sizeI a1 a2 a3 l)).length c11).ownBlock = some g → ¬ g = g4 := fun g hg => by have := (own_lt o11 hg).1; omega
  refine blk_set1 (k := 6) ((hM9.kp (Kp.of_below b10) id).kp k11 hpM) (by simp) fun w12 hM12 k12 s12 => ?_
  have hB12 := ((hB9.kp (Kp.of_below b10) id).kp k11 hp0).kp k12 (by omega)
  have o3z := own_kp (own_kp (own_below_kp o9 b10) k11 hA3p) k12 hA3
  have o8z := own_kp (own_kp (own_below_kp o89 b10) k11 hA8p) k12 hA8
  have o11z := own_kp o11 k12 hA11
  have hR12 := hR11.kp k12 hFM
  have bz : Below w.heap.size w w12 := by
    have q3 : Below w.heap.size w w3 := b2'.trans (k3.below b2'.size fun i hi hp => by have := hFl _ (hpF _ hp); omega)
    have q5 : Below w.heap.size w w5 := (q3.trans (b4.mono (by omega))).trans (k5.below (by omega) (by omega))
    have q7 : Below w.heap.size w w7 := (q5.trans (k6.below (by omega) fun i hi hp => by have := hFl _ (hpF _ hp); omega)).trans (k7.below (by omega) (by omega))
    have q9 : Below w.heap.size w w9 := (q7.trans (k8.below (by omega) fun i hi hp => by have := hFl _ (hpF _ hp); omega)).trans (k9.below (by omega) (by omega))
    exact ((q9.trans (b10.mono (by omega))).trans (k11.below (by omega) fun i hi hp => by have := hFl _ (hpF _ hp); omega)).trans (k12.below (by omega) (by omega))
  have hB12s := hB12
  refine num_Reader_End_c hR12 ⟨_, rfl, ?_⟩
  change condP (tEnd a1 a2 a3 l left e != 0) _ _
  have zero : ∀ w13, ∀ er : Int, er ≠ 0 → tErr a1 a2 a3 l left e = er → Blk w13 w.heap.size Ty.image_Image [.int .i64 0, .int .i64 0, .int .i64 0, .slice none 0 0, .int .i64 0, .slice none 0 0, .slice none 0 0] → Below w.heap.size w w13 → K (.tuple #[.agg #[.int .i64 0, .int .i64 0, .int .i64 0, .slice none 0 0, .int .i64 0, .slice none 0 0, .slice none 0 0], .int .i64 er]) w13 := fun w13 er hne he hB13 b13 => by
    rw [he, if_pos hne] at hK
    exact hK none 0 0 none 0 0 none 0 0 w13 rfl rfl rfl (World.ownsRow_nil _ _ _ _) (World.ownsRow_nil _ _ _ _) (World.ownsRow_nil _ _ _ _) b13
  refine cond_ne (fun he => ?_) (fun he => ?_)
  · refine st7 hB12 fun w13 hB13 k13 s13 => ?_
    refine ⟨_, hB13.cell' (j := 0) rfl, _, hB13.cell' (j := 1) rfl, _, hB13.cell' (j := 2) rfl, _, _, _, hB13.cell' (j := 3) rfl, _, hB13.cell' (j := 4) rfl, _, _, _, hB13.cell' (j := 5) rfl, _, _, _, hB13.cell' (j := 6) rfl, ?_⟩
    exact zero w13 (tEnd a1 a2 a3 l left e) he (by unfold tErr; rw [if_pos he]) hB13 (bz.trans (k13.below bz.size (by omega)))
  · obtain ⟨_, _, hr5, _, _⟩ := tEnd_0 (pg := a1) (cl := a2) (size := a3) (l := l) hb3 he
    have hi8 := right_I hr5
    have hM12 : Blk w12 g4 Ty.image_Image [.int .i64 a1, .int .i64 a2, .int .i64 a3, .slice A3 m3 c3, .int .i64 (tVal a1 a2 a3 l left e).base, .slice A8 m8 c8, .slice A11 (tVal a1 a2 a3 l left e).bytes.length c11] := hM12
    refine ⟨_, hM12.cell' (j := 0) rfl, _, hM12.cell' (j := 1) rfl, _, hM12.cell' (j := 2) rfl, _, _, _, hM12.cell' (j := 3) rfl, _, hM12.cell' (j := 4) rfl, _, _, _, hM12.cell' (j := 5) rfl, _, _, _, hM12.cell' (j := 6) rfl, ?_⟩
    have hsz := @size_I a1 a2 a3 l
    have hbl : (tVal a1 a2 a3 l left e).bytes.length ≤ left.length := Nat.le_trans bOut_len hll
    refine image_Right_c (offs := (tVal a1 a2 a3 l left e).offs) (bytes := (tVal a1 a2 a3 l left e).bytes) i1 i2 i3 (Cs.ofOwn o3z) hm3 (by omega) hi3 (Cs.ofOwn o8z) hm8 hi8 rfl (by omega) fun w13 b13 => ⟨_, rfl, ?_⟩
    have b13' := bz.trans (b13.mono bz.size)
    have hM13 := hM12.kp (Kp.of_below b13) id
    have hB13 := hB12s.kp (Kp.of_below b13) id
    have eT : tErr a1 a2 a3 l left e = if rightI (tVal a1 a2 a3 l left e) = true then 0 else 4 := by unfold tErr; rw [if_neg (fun h => h he)]
    change condP (!rightI (tVal a1 a2 a3 l left e)) _ _
    cases hr : rightI (tVal a1 a2 a3 l left e) with
    | false =>
      rw [hr, if_neg (by decide)] at eT
      refine condP_t ?_
      refine st7 hB13 fun w14 hB14 k14 s14 => ?_
      refine ⟨_, hB14.cell' (j := 0) rfl, _, hB14.cell' (j := 1) rfl, _, hB14.cell' (j := 2) rfl, _, _, _, hB14.cell' (j := 3) rfl, _, hB14.cell' (j := 4) rfl, _, _, _, hB14.cell' (j := 5) rfl, _, _, _, hB14.cell' (j := 6) rfl, ?_⟩
      exact zero w14 4 (by decide) eT hB14 (b13'.trans (k14.below b13'.size (by omega)))
    | true =>
      rw [hr, if_pos rfl] at eT
      refine condP_f ?_
      refine ⟨_, hM13.cell' (j := 0) rfl, _, hM13.cell' (j := 1) rfl, _, hM13.cell' (j := 2) rfl, _, _, _, hM13.cell' (j := 3) rfl, _, hM13.cell' (j := 4) rfl, _, _, _, hM13.cell' (j := 5) rfl, _, _, _, hM13.cell' (j := 6) rfl, ?_⟩
      refine st7 hB13 fun w14 hB14 k14 s14 => ?_
      refine ⟨_, hB14.cell' (j := 0) rfl, _, hB14.cell' (j := 1) rfl, _, hB14.cell' (j := 2) rfl, _, _, _, hB14.cell' (j := 3) rfl, _, hB14.cell' (j := 4) rfl, _, _, _, hB14.cell' (j := 5) rfl, _, _, _, hB14.cell' (j := 6) rfl, ?_⟩
      rw [eT, if_neg (fun h => h rfl)] at hK
      have f3 : ∀ g, (Value.slice A3 m3 c3).ownBlock = some g → ¬ g = w.heap.size := fun g hg => by have := (own_lt o3 hg).1; omega
      have f8 : ∀ g, (Value.slice A8 m8 c8).ownBlock = some g → ¬ g = w.heap.size := fun g hg => by have := (own_lt o8 hg).1; omega
      have f11 : ∀ g, (Value.slice A11 (bOut (tL (uLeft left e 4294967296) (uErr left e 4294967296)) (tE (uLeft left e 4294967296) (uErr left e 4294967296)) (sizeI a1 a2 a3 l)).length c11).ownBlock = some g → ¬ g = w.heap.size := fun g hg => by have := (own_lt o11 hg).1; omega
      exact hK A3 m3 c3 A8 m8 c8 A11 _ c11 w14 hm3 hm8 rfl (own_base (own_kp (own_below_kp o3z b13) k14 f3) (by omega)) (own_base (own_kp (own_below_kp o8z b13) k14 f8) (by omega)) (own_base (own_kp (own_below_kp o11z b13) k14 f11) (by omega)) (b13'.trans (k14.below b13'.size (by omega)))
end

end Go.Proofs.YtogmnhdadggnbaaDoor.C
