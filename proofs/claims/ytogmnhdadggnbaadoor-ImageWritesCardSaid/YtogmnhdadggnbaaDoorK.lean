/-
  Parts of the proofs of this seat: what the functions compute. No condition beyond what each theorem states.
-/
import Derived.Test.YtogmnhdadggnbaaDoorF
import Derived.Test.YtogmnhdadggnbaaDoorRK
import Derived.Test.YtogmnhdadggnbaaDoorA
import Derived.Test.YtogmnhdadggnbaaDoorB
import Derived.Test.YtogmnhdadggnbaaDoorC
import Derived.Test.YtogmnhdadggnbaaDoorD
import Derived.Test.YtogmnhdadggnbaaDoorE
import Derived.Test.YtogmnhdadggnbaaDoorG
import Derived.Test.YtogmnhdadggnbaaDoorH
import Derived.Test.YtogmnhdadggnbaaDoorI
import Derived.Test.YtogmnhdadggnbaaDoorJ
set_option linter.unusedVariables false
set_option linter.unusedSimpArgs false
set_option maxRecDepth 100000
namespace Go.Proofs.YtogmnhdadggnbaaDoor.C
open Go Go.RowKit Go.Proofs.YtogmnhdadggnbaaDoor Go.Proofs.YtogmnhdadggnbaaDoor.Sh Go.Proofs.YtogmnhdadggnbaaDoor.F Go.Proofs.YtogmnhdadggnbaaDoor.R

theorem valF_bits {bs : List Int} {j : Nat} {x : Int} (h : bs[j]? = some x) (hx : 0 ≤ x ∧ x ≤ 255) : ((valF (bitsOf bs) (8 * j) 8 : Nat) : Int) = x := by
  obtain ⟨y, rfl⟩ := Int.eq_ofNat_of_zero_le hx.1
  have : valF (bitsOf bs) (8 * j) 8 = y := by
    apply Nat.eq_of_testBit_eq
    intro i
    rw [valF_bit]
    by_cases hi : i < 8
    · rw [decide_eq_true hi, bitsOf_at h hi, Int.toNat_natCast]; rfl
    · rw [decide_eq_false hi]
      refine (Nat.testBit_lt_two_pow ?_).symm
      have : 2 ^ 8 ≤ 2 ^ i := Nat.pow_le_pow_right (by decide) (by omega)
      omega
  rw [this]
theorem bytL_bits {bs : List Int} {n : Nat} (hb : Bytes bs) (hl : bs.length = (n + 7) / 8) : bytL (bitsOf bs) n = bs := by
  apply List.ext_getElem?
  intro i
  by_cases h : i < (n + 7) / 8
  · have hx : bs[i]? = some bs[i] := List.getElem?_eq_getElem (by omega)
    have hv := valF_bits hx (hb _ (List.getElem_mem _))
    rw [hx]
    simp [bytL, h, hv]
  · rw [List.getElem?_eq_none (by rw [bytL_len]; omega), List.getElem?_eq_none (by omega)]
theorem bits_byt {S : Nat → Bool} {n : Nat} (hS : Within S n) : bitsOf (bytL S n) = S := funext fun i => by
  by_cases h : i / 8 < (n + 7) / 8
  · have hx : (bytL S n)[i / 8]? = some ((valF S (8 * (i / 8)) 8 : Nat) : Int) := by simp [bytL, h]
    have := bitsOf_at hx (show i % 8 < 8 by omega)
    have e : 8 * (i / 8) + i % 8 = i := by omega
    rw [e, Int.toNat_natCast, valF_bit, decide_eq_true (by omega), Bool.true_and, e] at this
    exact this
  · rw [bitsOf_end (by rw [bytL_len]; omega), hS i (by omega)]
theorem within_bits {bs : List Int} {n : Nat} (h : badB bs n = false) : Within (bitsOf bs) n := fun i hi => by
  cases hb : bitsOf bs i with
  | false => rfl
  | true => rw [bad_of hi hb] at h; cases h
/-! ### what is written is read, and what is read is written -/
theorem bOut_back {a rest : List Int} {n : Int} (hn : n = a.length) : bOut (a ++ rest) 0 n = a ∧ bErr (a ++ rest) 0 n = 0 ∧ bLeft (a ++ rest) 0 n = rest := by
  subst hn
  unfold bOut bErr bLeft
  by_cases h : (0 : Int) ≠ 0 ∨ ((a.length : Nat) : Int) ≤ 0
  · rw [if_pos h, if_pos h, if_pos h]
    have : a = [] := by
      cases a with
      | nil => rfl
      | cons x a => simp at h; omega
    subst this
    exact ⟨rfl, rfl, rfl⟩
  · rw [if_neg h, if_neg h, if_neg h, if_neg (by rw [List.length_append]; omega), if_neg (by rw [List.length_append]; omega), if_neg (by rw [List.length_append]; omega), Int.toNat_natCast]
    exact ⟨by simp, rfl, by simp⟩
theorem rise_within {n : Nat} {l : List Int} (h : riseV n (-1) l = true) : Within (setL l) n := setL_within fun y hy => (rise_all l (-1) h y hy).2
theorem read_back {m : ImgV} (h : rightI m = true) : iErr (bodyI m) = 0 ∧ iRes (bodyI m) = m := by
  have ok := img_ok h
  obtain ⟨n1, n2, n3, n4, n5, n6, n7, n8, _⟩ := new_ok ok.new
  obtain ⟨z1, z2, _⟩ := new_size ok.new
  have hw := rise_within ok.rise
  have hs := clsSlots_le m.cl
  have c0 := ok.base0
  have c1 := ok.base1
  have c2 := ok.base2
  have eb : bodyI m = varB m.pg ++ (varB m.cl ++ (varB m.size ++ (bytL (setL m.live) (slotsN m.cl) ++ (varB (m.base / 256) ++ (tabB m.offs ++ m.bytes))))) := by
    unfold bodyI
    simp only [List.append_assoc]
  rw [eb]
  generalize hbs : varB m.pg ++ (varB m.cl ++ (varB m.size ++ (bytL (setL m.live) (slotsN m.cl) ++ (varB (m.base / 256) ++ (tabB m.offs ++ m.bytes))))) = bs
  obtain ⟨a1, a2, a3⟩ := uback (d := m.pg) (most := 4095) (rest := varB m.cl ++ (varB m.size ++ (bytL (setL m.live) (slotsN m.cl) ++ (varB (m.base / 256) ++ (tabB m.offs ++ m.bytes))))) ⟨by omega, by omega⟩ (by omega)
  rw [hbs] at a1 a2 a3
  obtain ⟨b1, b2, b3⟩ := uback (d := m.cl) (most := 7) (rest := varB m.size ++ (bytL (setL m.live) (slotsN m.cl) ++ (varB (m.base / 256) ++ (tabB m.offs ++ m.bytes)))) ⟨by omega, by omega⟩ (by omega)
  rw [← a3, ← a2] at b1 b2 b3
  obtain ⟨d1, d2, d3⟩ := uback (d := m.size) (most := 4096) (rest := bytL (setL m.live) (slotsN m.cl) ++ (varB (m.base / 256) ++ (tabB m.offs ++ m.bytes))) ⟨by omega, by omega⟩ (by omega)
  have e1 : hPg bs = m.pg := a1
  have e2 : hCl bs = m.cl := by unfold hCl hL1 hE1; rw [a2] at b1 ⊢; exact b1
  have g2 : hE2 bs = 0 := by unfold hE2 hL1 hE1; rw [a2] at b2 ⊢; exact b2
  have g3 : hL2 bs = varB m.size ++ (bytL (setL m.live) (slotsN m.cl) ++ (varB (m.base / 256) ++ (tabB m.offs ++ m.bytes))) := by unfold hL2 hL1 hE1; rw [a2] at b3 ⊢; exact b3
  have e3 : hSize bs = m.size := by unfold hSize; rw [g2, g3]; exact d1
  have g4 : hE3 bs = 0 := by unfold hE3; rw [g2, g3]; exact d2
  have g5 : hL3 bs = bytL (setL m.live) (slotsN m.cl) ++ (varB (m.base / 256) ++ (tabB m.offs ++ m.bytes)) := by unfold hL3; rw [g2, g3]; exact d3
  have ek : hK bs = ((bytL (setL m.live) (slotsN m.cl)).length : Int) := by unfold hK; rw [e2, bytL_len]
  obtain ⟨f1, f2, f3⟩ := bOut_back (a := bytL (setL m.live) (slotsN m.cl)) (rest := varB (m.base / 256) ++ (tabB m.offs ++ m.bytes)) ek
  rw [← g5] at f1 f2 f3
  have g6 : hBits bs = bytL (setL m.live) (slotsN m.cl) := f1
  have g7 : hLeft bs = varB (m.base / 256) ++ (tabB m.offs ++ m.bytes) := f3
  have g8 : hErr bs = 0 := by
    unfold hErr
    rw [g4, e1, e2, e3, ok.new, f2, g6, bad_no (fun i hi => by rw [bits_byt hw]; exact hw i hi)]
    rfl
  have g9 : hLive bs = m.live := by
    unfold hLive
    rw [g6, e2, bits_byt hw]
    exact mem_setL m.live 0 (Nat.zero_le _) ok.rise
  obtain ⟨i1, i2, i3⟩ := uback (d := m.base / 256) (most := 4294967296) (rest := tabB m.offs ++ m.bytes) ⟨by omega, by omega⟩ (by omega)
  have hT := readT_back (more := m.bytes) ok.tab
  have hV : readV (tabB m.offs ++ m.bytes) = m.offs := by unfold readV; rw [hT]; rfl
  obtain ⟨j1, j2, j3⟩ := bOut_back (a := m.bytes) (rest := []) ok.len.symm
  rw [List.append_nil] at j1 j2 j3
  have tv : tVal m.pg m.cl m.size m.live (varB (m.base / 256) ++ (tabB m.offs ++ m.bytes)) 0 = m := by
    unfold tVal tOffs tL tE
    rw [i1, i2, i3, if_neg (fun h => h rfl), if_neg (fun h => h rfl), if_neg (fun h => h rfl), hV, hT, j1]
    have : 256 * (m.base / 256) = m.base := by omega
    rw [this]
  have te : tEnd m.pg m.cl m.size m.live (varB (m.base / 256) ++ (tabB m.offs ++ m.bytes)) 0 = 0 := by
    unfold tEnd tL tE
    rw [i2, i3, if_neg (fun h => h rfl), if_neg (fun h => h rfl), hT, j2, j3]
    rfl
  have tr : tErr m.pg m.cl m.size m.live (varB (m.base / 256) ++ (tabB m.offs ++ m.bytes)) 0 = 0 := by
    unfold tErr
    rw [te, tv, h]; rfl
  have hi : iErr bs = 0 := by
    unfold iErr
    rw [g8, e1, e2, e3, g9, g7, tr]; rfl
  refine ⟨hi, ?_⟩
  unfold iRes
  rw [hi, e1, e2, e3, g9, g7, tv]; rfl
theorem read_one {bs : List Int} (hb : Bytes bs) (h : iErr bs = 0) : rightI (iRes bs) = true ∧ bodyI (iRes bs) = bs := by
  have hE : hErr bs = 0 := by
    by_cases he : hErr bs = 0
    · exact he
    · unfold iErr at h; rw [if_pos he] at h; exact h
  have hT : tErr (hPg bs) (hCl bs) (hSize bs) (hLive bs) (hLeft bs) 0 = 0 := by unfold iErr at h; rw [if_neg (fun h => h hE)] at h; exact h
  have hR : iRes bs = tVal (hPg bs) (hCl bs) (hSize bs) (hLive bs) (hLeft bs) 0 := by unfold iRes; rw [if_neg (fun h' => h' h)]
  have hEnd : tEnd (hPg bs) (hCl bs) (hSize bs) (hLive bs) (hLeft bs) 0 = 0 := by
    by_cases he : tEnd (hPg bs) (hCl bs) (hSize bs) (hLive bs) (hLeft bs) 0 = 0
    · exact he
    · unfold tErr at hT; rw [if_pos he] at hT; exact hT
  have hr : rightI (tVal (hPg bs) (hCl bs) (hSize bs) (hLive bs) (hLeft bs) 0) = true := by
    unfold tErr at hT
    rw [if_neg (fun h => h hEnd)] at hT
    by_cases he : rightI (tVal (hPg bs) (hCl bs) (hSize bs) (hLive bs) (hLeft bs) 0) = true
    · exact he
    · rw [if_neg he] at hT; cases hT
  have hb1 : Bytes (hL1 bs) := uLeft_bytes hb
  have hb2 : Bytes (hL2 bs) := uLeft_bytes hb1
  have hb3 : Bytes (hL3 bs) := uLeft_bytes hb2
  have hbL : Bytes (hLeft bs) := bLeft_bytes hb3
  have h3 : hE3 bs = 0 := by
    by_cases he : hE3 bs = 0
    · exact he
    · unfold hErr at hE; rw [if_pos he] at hE; exact hE
  have h2 : hE2 bs = 0 := by
    by_cases he : hE2 bs = 0
    · exact he
    · unfold hE3 at h3; rw [(uVal_err he (by decide)).2.1] at h3; exact h3
  have h1 : hE1 bs = 0 := by
    by_cases he : hE1 bs = 0
    · exact he
    · unfold hE2 at h2; rw [(uVal_err he (by decide)).2.1] at h2; exact h2
  have hne : newErr (hPg bs) (hCl bs) (hSize bs) = 0 := by
    by_cases he : newErr (hPg bs) (hCl bs) (hSize bs) = 0
    · exact he
    · unfold hErr at hE; rw [if_neg (fun h => h h3), if_pos he] at hE; cases hE
  have hbe : bErr (hL3 bs) 0 (hK bs) = 0 := by
    by_cases he : bErr (hL3 bs) 0 (hK bs) = 0
    · exact he
    · unfold hErr at hE; rw [if_neg (fun h => h h3), if_neg (fun h => h hne), if_pos he] at hE; exact hE
  have hbad : badB (hBits bs) (slotsN (hCl bs)) = false := by
    cases hbd : badB (hBits bs) (slotsN (hCl bs)) with
    | false => rfl
    | true => unfold hErr at hE; rw [if_neg (fun h => h h3), if_neg (fun h => h hne), if_neg (fun h => h hbe), if_pos hbd] at hE; cases hE
  have u1 : bs = varB (hPg bs) ++ hL1 bs := uone hb h1
  have u2 : hL1 bs = varB (hCl bs) ++ hL2 bs := by
    have := uone (most := 7) hb1 (by unfold hE2 at h2; rw [h1] at h2; exact h2)
    unfold hCl hL2; rw [h1]; exact this
  have u3 : hL2 bs = varB (hSize bs) ++ hL3 bs := by
    have := uone (most := 4096) hb2 (by unfold hE3 at h3; rw [h2] at h3; exact h3)
    unfold hSize hL3; rw [h2]; exact this
  have hk0 : 0 ≤ hK bs ∧ (hK bs).toNat = (slotsN (hCl bs) + 7) / 8 := by unfold hK; omega
  obtain ⟨q1, q2⟩ := b_len hbe hk0.1
  have u4 : hL3 bs = hBits bs ++ hLeft bs := q2
  obtain ⟨_, t1, _, t2, _⟩ := tEnd_0 hbL hEnd
  have u5 := uone hbL t1
  rw [t2] at u5
  rw [hR]
  refine ⟨hr, ?_⟩
  have hlen : (hBits bs).length = (slotsN (hCl bs) + 7) / 8 := by unfold hBits; rw [q1, hk0.2]
  have u6 : bytL (setL (hLive bs)) (slotsN (hCl bs)) = hBits bs := by
    unfold hLive
    rw [setL_mem (within_bits hbad)]
    exact bytL_bits (bOut_bytes hb3) hlen
  have u7 : (256 * uVal (hLeft bs) 0 4294967296) / 256 = uVal (hLeft bs) 0 4294967296 := by omega
  show varB (hPg bs) ++ varB (hCl bs) ++ varB (hSize bs) ++ bytL (setL (hLive bs)) (slotsN (hCl bs)) ++ varB ((256 * uVal (hLeft bs) 0 4294967296) / 256) ++ tabB (tVal (hPg bs) (hCl bs) (hSize bs) (hLive bs) (hLeft bs) 0).offs ++ (tVal (hPg bs) (hCl bs) (hSize bs) (hLive bs) (hLeft bs) 0).bytes = bs
  rw [u6, u7]
  simp only [List.append_assoc]
  rw [← u5, ← u4, ← u3, ← u2, ← u1]

end Go.Proofs.YtogmnhdadggnbaaDoor.C
