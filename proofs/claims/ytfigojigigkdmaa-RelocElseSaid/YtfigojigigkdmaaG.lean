/-
  Parts of the proofs of this seat: what the functions compute. No condition beyond what each theorem states.
-/
import Derived.Test.YtfigojigigkdmaaF
import Derived.Test.YtfigojigigkdmaaRK
import Derived.Test.YtfigojigigkdmaaB
import Derived.Test.YtfigojigigkdmaaC
import Derived.Test.YtfigojigigkdmaaD
set_option linter.unusedVariables false
set_option linter.unusedSimpArgs false
set_option maxRecDepth 100000
namespace Go.Proofs.Ytfigojigigkdmaa.C
open Go Go.RowKit Go.Proofs.Ytfigojigigkdmaa Go.Proofs.Ytfigojigigkdmaa.Sh Go.Proofs.Ytfigojigigkdmaa.F Go.Proofs.Ytfigojigigkdmaa.R

/-! ### what is written of a number is read as that number -/
theorem scan_varB : ∀ (f i : Nat) (acc n : Int) (rest : List Int), f + i = 9 → 0 ≤ n → (0 < i → 1 ≤ n) → n * ((128 ^ i : Nat) : Int) < 18446744073709551616 → scan i acc (varF f n ++ rest) = (acc + n * ((128 ^ i : Nat) : Int), 0, i + (varF f n).length)
  | 0, i, acc, n, rest, hi, h0, h1, hb => by
    obtain rfl : i = 9 := by omega
    have hn := h1 (by decide)
    have e9 : ((128 ^ 9 : Nat) : Int) = 9223372036854775808 := by decide
    rw [e9] at hb ⊢
    rw [varF, List.singleton_append, scan, if_neg (by omega), if_pos (by omega), e9]
    rfl
  | f + 1, i, acc, n, rest, hi, h0, h1, hb => by
    by_cases h : n < 128
    · rw [varF, if_pos h, List.singleton_append, scan, if_neg (by omega), if_pos h]
      rfl
    · rw [varF, if_neg h, List.cons_append, scan, if_neg (by omega), if_neg (by omega)]
      have ep : ((128 ^ (i + 1) : Nat) : Int) = 128 * ((128 ^ i : Nat) : Int) := by rw [Nat.pow_succ]; push_cast; omega
      have hp : (0 : Int) < ((128 ^ i : Nat) : Int) := by have := Nat.pow_pos (n := i) (show 0 < 128 by decide); omega
      have em : (n % 128 + 128) % 128 = n % 128 := by omega
      have eq : n / 128 * ((128 ^ (i + 1) : Nat) : Int) + n % 128 * ((128 ^ i : Nat) : Int) = n * ((128 ^ i : Nat) : Int) := by
        have hn : n = n / 128 * 128 + n % 128 := by omega
        rw [ep]
        conv => rhs; rw [hn, Int.add_mul]
        rw [← Int.mul_assoc]
      have hr : (0 : Int) ≤ n % 128 * ((128 ^ i : Nat) : Int) := Int.mul_nonneg (by omega) (by omega)
      have ih := scan_varB f (i + 1) (acc + (n % 128 + 128) % 128 * ((128 ^ i : Nat) : Int)) (n / 128) rest (by omega) (by omega) (fun _ => by omega) (by omega)
      rw [ih, em, List.length_cons]
      refine Prod.ext ?_ (Prod.ext rfl ?_)
      · show acc + n % 128 * ((128 ^ i : Nat) : Int) + n / 128 * ((128 ^ (i + 1) : Nat) : Int) = acc + n * ((128 ^ i : Nat) : Int)
        omega
      · show i + 1 + (varF f (n / 128)).length = i + ((varF f (n / 128)).length + 1)
        omega
theorem scan_back {n : Int} (h : U64 n) (rest : List Int) : scan 0 0 (varB n ++ rest) = (n, 0, (varB n).length) := by
  have := scan_varB 9 0 0 n rest rfl h.1 (fun h => by omega) (by have := h.2; simp; omega)
  unfold varB
  rw [this]
  simp
/-! ### what bytes read as a table are -/
def readF : Nat → Int → List Int → Int → List Int × Int × List Int
  | 0, _, left, err => ([], err, left)
  | n + 1, next, left, err => if err ≠ 0 then ([], err, left) else
      ((next + 8 * uVal left 0 8192) :: (readF n (next + 8 * uVal left 0 8192 + 8) (uLeft left 0 8192) (if 65527 < next + 8 * uVal left 0 8192 then failV (uErr left 0 8192) 4 else uErr left 0 8192)).1,
        (readF n (next + 8 * uVal left 0 8192 + 8) (uLeft left 0 8192) (if 65527 < next + 8 * uVal left 0 8192 then failV (uErr left 0 8192) 4 else uErr left 0 8192)).2)
theorem readF_err {err : Int} (h : err ≠ 0) : ∀ (n : Nat) (next : Int) (left : List Int), readF n next left err = ([], err, left)
  | 0, _, _ => rfl
  | n + 1, next, left => by rw [readF, if_pos h]
def readT (left : List Int) : List Int × Int × List Int := readF (uVal left 0 8192).toNat 0 (uLeft left 0 8192) (uErr left 0 8192)
def readV (left : List Int) : List Int := if (readT left).2.1 ≠ 0 then [] else (readT left).1
theorem scan_nn : ∀ (cs : List Int) (i : Nat) (acc : Int), 0 ≤ acc → Bytes cs → 0 ≤ (scan i acc cs).1
  | [], _, _, _, _ => Int.le_refl _
  | c :: cs, i, acc, h, hb => by
    have hc := hb c (by simp)
    have hp : (0 : Int) ≤ ((128 ^ i : Nat) : Int) := Int.natCast_nonneg _
    unfold scan
    split
    · exact Int.le_refl _
    · split
      · exact Int.add_nonneg h (Int.mul_nonneg hc.1 hp)
      · exact scan_nn cs (i + 1) _ (Int.add_nonneg h (Int.mul_nonneg (by omega) hp)) (fun x hx => hb x (List.mem_cons_of_mem _ hx))
theorem uVal_range {left : List Int} {err most : Int} (hb : Bytes left) (hm : 0 ≤ most) : 0 ≤ uVal left err most ∧ uVal left err most ≤ most := by
  have h : 0 ≤ vVal left err := by
    unfold vVal
    split
    · exact Int.le_refl _
    · exact scan_nn left 0 0 (Int.le_refl _) hb
  unfold uVal
  split <;> omega
theorem vback {d : Int} {rest : List Int} (h : U64 d) : vVal (varB d ++ rest) 0 = d ∧ vErr (varB d ++ rest) 0 = 0 ∧ vLeft (varB d ++ rest) 0 = rest := by
  have hs := scan_back h rest
  have e0 : ¬ ((0 : Int) ≠ 0) := fun h => h rfl
  unfold vVal vErr vLeft
  rw [if_neg e0, if_neg e0, if_neg e0, hs]
  exact ⟨rfl, rfl, by simp⟩
theorem uback {d most : Int} {rest : List Int} (h : U64 d) (hm : d ≤ most) : uVal (varB d ++ rest) 0 most = d ∧ uErr (varB d ++ rest) 0 most = 0 ∧ uLeft (varB d ++ rest) 0 most = rest := by
  obtain ⟨h1, h2, h3⟩ := vback (rest := rest) h
  unfold uVal uErr uLeft
  rw [h1, if_neg (by omega), if_neg (by omega), if_neg (by omega)]
  exact ⟨rfl, h2, h3⟩
theorem readF_back : ∀ (l : List Int) (next : Int) (more : List Int), 0 ≤ next → next % 8 = 0 → rightFrom 65535 next l = true → readF l.length next (encT next l ++ more) 0 = (l, 0, more)
  | [], next, more, _, _, _ => rfl
  | x :: l, next, more, h0, h8, hr => by
    rw [rightFrom] at hr
    by_cases hb : x < next ∨ x % 8 ≠ 0 ∨ imax 0 65535 - 8 < x
    · rw [if_pos hb] at hr; cases hr
    rw [if_neg hb] at hr
    have e : imax 0 65535 = 65535 := rfl
    rw [e] at hb
    obtain ⟨u1, u2, u3⟩ := uback (d := (x - next) / 8) (most := 8192) (rest := encT (x + 8) l ++ more) ⟨by omega, by omega⟩ (by omega)
    rw [List.length_cons, encT, List.append_assoc, readF, if_neg (fun h => h rfl), u1, u2, u3]
    have ex : next + 8 * ((x - next) / 8) = x := by omega
    rw [ex, if_neg (by omega), readF_back l (x + 8) more (by omega) (by omega) hr]
theorem readT_back {l more : List Int} (hr : rightV l 65535 = true) : readT (tabB l ++ more) = (l, 0, more) := by
  unfold rightV at hr
  by_cases hl : 8192 < l.length
  · rw [if_pos hl] at hr; cases hr
  rw [if_neg hl] at hr
  unfold readT tabB
  obtain ⟨u1, u2, u3⟩ := uback (d := (l.length : Int)) (most := 8192) (rest := encT 0 l ++ more) ⟨by omega, by omega⟩ (by omega)
  rw [List.append_assoc, u1, u2, u3, Int.toNat_natCast]
  exact readF_back l 0 more (by decide) (by decide) hr
/-- What is read without a fault is what is written of it. -/
theorem uone {left : List Int} {most : Int} (hb : Bytes left) (he : uErr left 0 most = 0) : left = varB (uVal left 0 most) ++ uLeft left 0 most := by
  unfold uErr at he
  unfold uVal uLeft
  by_cases h : most < vVal left 0
  · rw [if_pos h] at he; cases he
  rw [if_neg h] at he ⊢
  rw [if_neg h]
  have e0 : ¬ ((0 : Int) ≠ 0) := fun h => h rfl
  unfold vErr at he
  unfold vVal vLeft
  rw [if_neg e0] at he ⊢
  rw [if_neg e0]
  cases hs : scan 0 0 left with
  | mk v r =>
    obtain ⟨e, u⟩ := r
    rw [hs] at he
    simp only at he
    subst he
    obtain ⟨val, hv, hv0, _, hu, ht, hlt⟩ := scan_var left 0 0 v u hs (by decide) hb (by decide) (by decide)
    have hval : v = val := by rw [hv]; simp
    subst hval
    simp only [Nat.sub_zero] at ht
    show left = varF 9 v ++ left.drop u
    rw [← ht, List.take_append_drop]
theorem readF_one : ∀ (n : Nat) (next : Int) (left out left' : List Int), Bytes left → 0 ≤ next → next % 8 = 0 → readF n next left 0 = (out, 0, left') → rightFrom 65535 next out = true ∧ left = encT next out ++ left' ∧ out.length = n
  | 0, next, left, out, left', _, _, _, h => by
    rw [readF] at h
    simp only [Prod.mk.injEq] at h
    obtain ⟨rfl, _, rfl⟩ := h
    exact ⟨rfl, rfl, rfl⟩
  | n + 1, next, left, out, left', hb, h0, h8, h => by
    rw [readF, if_neg (fun h => h rfl)] at h
    have hu := uVal_range (err := 0) (most := 8192) hb (by decide)
    have hbl : Bytes (uLeft left 0 8192) := uLeft_bytes hb
    have hone := uone (most := 8192) hb
    generalize uVal left 0 8192 = v at h hu hone
    generalize uLeft left 0 8192 = lf at h hbl hone
    generalize uErr left 0 8192 = e at h hone
    by_cases he : (if 65527 < next + 8 * v then failV e 4 else e) = 0
    · by_cases hx : 65527 < next + 8 * v
      · rw [if_pos hx] at he
        unfold failV at he
        split at he <;> omega
      rw [if_neg hx] at he h
      subst he
      cases hr : readF n (next + 8 * v + 8) lf 0 with
      | mk o r =>
        obtain ⟨e', l'⟩ := r
        rw [hr] at h
        simp only [Prod.mk.injEq] at h
        obtain ⟨rfl, rfl, rfl⟩ := h
        obtain ⟨i1, i2, i3⟩ := readF_one n _ lf o _ hbl (by omega) (by omega) hr
        refine ⟨?_, ?_, by rw [List.length_cons, i3]⟩
        · have e5 : imax 0 65535 = 65535 := rfl
          rw [rightFrom, e5, if_neg (by omega)]
          exact i1
        · have ev : (next + 8 * v - next) / 8 = v := by omega
          rw [encT, ev, List.append_assoc, ← i2]
          exact hone rfl
    · rw [readF_err he] at h
      simp only [Prod.mk.injEq] at h
      exact absurd h.2.1 he
theorem readT_one {left out left' : List Int} (hb : Bytes left) (h : readT left = (out, 0, left')) : rightV out 65535 = true ∧ left = tabB out ++ left' := by
  unfold readT at h
  have hu := uVal_range (err := 0) (most := 8192) hb (by decide)
  have hone := uone (most := 8192) hb
  have hbl : Bytes (uLeft left 0 8192) := uLeft_bytes hb
  generalize uVal left 0 8192 = v at h hu hone
  generalize uLeft left 0 8192 = lf at h hbl hone
  generalize uErr left 0 8192 = e at h hone
  by_cases he : e = 0
  · subst he
    obtain ⟨h1, h2, h3⟩ := readF_one _ _ lf out left' hbl (by decide) (by decide) h
    unfold rightV tabB
    rw [if_neg (by omega)]
    refine ⟨h1, ?_⟩
    have ev : (out.length : Int) = v := by omega
    rw [ev, List.append_assoc, ← h2]
    exact hone rfl
  · rw [readF_err he] at h
    simp only [Prod.mk.injEq] at h
    exact absurd h.2.1 he
theorem readF_len : ∀ (n : Nat) (next : Int) (left : List Int) (err : Int), (readF n next left err).1.length ≤ n ∧ (readF n next left err).2.2.length ≤ left.length
  | 0, _, _, _ => ⟨Nat.le_refl _, Nat.le_refl _⟩
  | n + 1, next, left, err => by
    rw [readF]
    split
    · exact ⟨by simp, Nat.le_refl _⟩
    · obtain ⟨h1, h2⟩ := readF_len n (next + 8 * uVal left 0 8192 + 8) (uLeft left 0 8192) (if 65527 < next + 8 * uVal left 0 8192 then failV (uErr left 0 8192) 4 else uErr left 0 8192)
      exact ⟨by rw [List.length_cons]; omega, Nat.le_trans h2 uLeft_len⟩
/-! ### the two readers of a table -/
theorem RdV.b_lt {ty : TypeId} {w : World} {b : Nat} {p : Option Addr} {left : List Int} {err : Int} {F : Nat → Prop} (h : RdV ty w b p left err F) {i : Nat} (hi : C.pt p i) : i < w.heap.size := (h.lt (h.pt hi)).2
theorem own_app {w0 w : World} {v : Value} {n : Nat} {F : Nat → Prop} {l : List Value} {e : TypeId} (ho : w.ownsRow w0.heap.size e 1 v n l) (hF : ∀ i, F i → i < w0.heap.size) : ∀ i, F i → ¬ v.ownBlock = some i := fun i hi h => by
  have := (own_lt ho h).1
  have := hF i hi
  omega
theorem kp_app {S : Nat → Prop} {w0 w w' : World} {v : Value} {n : Nat} {l : List Value} {e : TypeId} {F' : Nat → Prop} (k : Kp S w0 w) (ho : w.ownsRow w0.heap.size e 1 v n l) (hm : Mv (fun g => v.ownBlock = some g) w w' F') : Kp S w0 w' :=
  k.trans hm.kp (fun _ _ h => h) (fun i hi h => by have := (own_lt ho h).1; omega)
theorem num_read_loop {w0 : World} {b : Nat} {p : Option Addr} {F : Nat → Prop} {tot : List Int × Int × List Int} {K : Value → World → Prop} (hF : ∀ i, F i → i < w0.heap.size)
    (hK : ∀ B m cb w', m = (if tot.2.1 ≠ 0 then [] else tot.1).length → w'.ownsRow w0.heap.size Ty.int 1 (.slice B m cb) m (nums .i64 (if tot.2.1 ≠ 0 then [] else tot.1)) → RdV Ty.num_Reader w' b p tot.2.2 tot.2.1 F → Kp (pt p) w0 w' → K (.slice B m cb) w') :
    ∀ (d : Nat) (w : World) (left acc : List Int) (err next : Int) (A : Option Addr) (c : Nat), RdV Ty.num_Reader w b p left err F → Bytes left → left.length ≤ 1000000000000000 → Kp (pt p) w0 w → w.ownsRow w0.heap.size Ty.int 1 (.slice A acc.length c) acc.length (nums .i64 acc) → acc.length + d ≤ 8192 →
    0 ≤ next → next ≤ (acc.length : Int) * 70000 → acc ++ (readF d next left err).1 = tot.1 → (readF d next left err).2 = tot.2 → reloc_Read.l0 K (d + 1) p A acc.length c next d w := by
  have fin : ∀ (w : World) (left acc : List Int) (err : Int) (A : Option Addr) (c : Nat), RdV Ty.num_Reader w b p left err F → Kp (pt p) w0 w → w.ownsRow w0.heap.size Ty.int 1 (.slice A acc.length c) acc.length (nums .i64 acc) → acc = tot.1 → (err, left) = tot.2 → reloc_Read.p9 K p A acc.length c w := fun w left acc err A c hR hk ho e1 e2 => by
    refine num_Reader_Err_c hR ⟨_, rfl, ?_⟩
    have e3 : tot.2.1 = err := by rw [← e2]
    have e4 : tot.2.2 = left := by rw [← e2]
    rw [e3, e4, ← e1] at hK
    refine cond_ne (fun h => ?_) (fun h => ?_)
    · rw [if_pos h] at hK
      exact hK none 0 0 w rfl (World.ownsRow_nil _ _ _ _) hR hk
    · rw [if_neg (fun g => g h)] at hK
      exact hK A _ c w rfl ho hR hk
  intro d
  induction d with
  | zero =>
    intro w left acc err next A c hR hb hl hk ho hn h0 h1 e1 e2
    rw [reloc_Read.l0_succ]
    refine cond_dec (fun h => by simp at h) (fun _ => ?_)
    rw [readF, List.append_nil] at e1
    exact fin w left acc err A c hR hk ho e1 e2
  | succ d ih =>
    intro w left acc err next A c hR hb hl hk ho hn h0 h1 e1 e2
    rw [reloc_Read.l0_succ]
    refine cond_dec (fun _ => ?_) (fun h => absurd h (by push_cast; omega))
    refine num_Reader_Err_c hR ⟨_, rfl, cond_eq (fun he => ?_) (fun he => ?_)⟩
    · subst he
      rw [readF, if_neg (fun h => h rfl)] at e1 e2
      refine num_Reader_Upto_c hR hb hl fun w1 hR1 k1 => ⟨_, rfl, ?_⟩
      have hu := uVal_range (err := 0) (most := 8192) hb (by decide)
      have hbl : Bytes (uLeft left 0 8192) := uLeft_bytes hb
      have hll : (uLeft left 0 8192).length ≤ left.length := uLeft_len
      generalize uVal left 0 8192 = v at e1 e2 hu
      generalize uLeft left 0 8192 = lf at e1 e2 hR1 hbl hll
      generalize uErr left 0 8192 = e at e1 e2 hR1
      have k1' := hk.trans k1 (fun _ _ h => h) (fun _ _ h => h)
      have ho1 := own_kp ho k1 (fun g hg hp => own_app ho hF g (hR.pt hp) hg)
      have ex : IntKind.wrap .i64 (next + (IntKind.wrap .i64 (8 * (IntKind.wrap .i64 v)))) = next + 8 * v := by
        rw [wrap64_in (x := v) (by omega) (by omega), wrap64_in (x := 8 * v) (by omega) (by omega), wrap64_in (by omega) (by omega)]
      rw [ex]
      have go : ∀ (w2 : World) (e' : Int), RdV Ty.num_Reader w2 b p lf e' F → Kp (pt p) w0 w2 → w2.ownsRow w0.heap.size Ty.int 1 (.slice A acc.length c) acc.length (nums .i64 acc) → acc ++ (next + 8 * v) :: (readF d (next + 8 * v + 8) lf e').1 = tot.1 → (readF d (next + 8 * v + 8) lf e').2 = tot.2 →
          reloc_Read.p7 (reloc_Read.l0 K (d + 1)) K p A acc.length c ((d + 1 : Nat) : Int) (next + 8 * v) w2 := fun w2 e' hR2 k2 ho2 f1 f2 => by
        refine wlet_intro fun w3 h3 => ?_
        have hal : Below w2.heap.size w2 w3 := by rw [h3]; exact (Below.refl _ _).alloc (Nat.le_refl _) _
        have hz : Blk w3 w2.heap.size Ty.int (nums .i64 [next + 8 * v]) := by rw [h3]; exact Blk.new w2 Ty.int _
        clear h3
        have ho3 := own_below_kp ho2 hal
        have k3 := k2.trans (Kp.of_below hal) (fun _ _ h => h) (fun _ _ h => h.elim)
        refine app_i64 (m := 1) ho3 rfl (Cs.of_blk0 hz) (by omega) k3.size fun A' c' w4 ho4 hm4 => ⟨_, _, _, rfl, ?_⟩
        have hR4 := (hR2.below hal).kp hm4.kp (own_app ho3 hF)
        have k4 := kp_app k3 ho3 hm4
        show reloc_Read.l0 K (d + 1) p A' _ c' (IntKind.wrap .i64 (next + 8 * v + 8)) (IntKind.wrap .u64 (((d + 1 : Nat) : Int) - 1)) w4
        have ed : IntKind.wrap .u64 (((d + 1 : Nat) : Int) - 1) = (d : Int) := by rw [wrapu64_in (by push_cast; omega) (by push_cast; omega)]; push_cast; omega
        rw [wrap64_in (x := next + 8 * v + 8) (by omega) (by omega), ed]
        have el : acc.length + 1 = (acc ++ [next + 8 * v]).length := by simp
        rw [el] at ho4 ⊢
        exact ih w4 lf _ e' _ A' c' hR4 hbl (by omega) k4 ho4 (by rw [← el]; omega) (by omega) (by rw [← el]; push_cast; omega) (by rw [List.append_assoc]; exact f1) f2
      refine cond_dec (fun hx => ?_) (fun hx => ?_)
      · rw [if_pos hx] at e1 e2
        refine num_Reader_Fail_c hR1 fun w2 hR2 k2 => ⟨rfl, ?_⟩
        exact go w2 _ hR2 (k1'.trans k2 (fun _ _ h => h) (fun _ _ h => h)) (own_kp ho1 k2 (fun g hg hp => own_app ho hF g (hR.pt hp) hg)) e1 e2
      · rw [if_neg hx] at e1 e2
        exact go w1 _ hR1 k1' ho1 e1 e2
    · rw [readF_err he] at e1 e2
      rw [List.append_nil] at e1
      exact fin w left acc err A c hR hk ho e1 e2
theorem reloc_Read_c {w : World} {b : Nat} {p : Option Addr} {left : List Int} {F : Nat → Prop} {K : Value → World → Prop} (hR : RdV Ty.num_Reader w b p left 0 F) (hb : Bytes left) (hl : left.length ≤ 1000000000000000)
    (hK : ∀ B m cb w', m = (readV left).length → w'.ownsRow w.heap.size Ty.int 1 (.slice B m cb) m (nums .i64 (readV left)) → RdV Ty.num_Reader w' b p (readT left).2.2 (readT left).2.1 F → Kp (pt p) w w' → K (.slice B m cb) w') : CallsE Pg reloc_Read.N #[.pointer p] w K := by
  refine reloc_Read.ok ?_
  refine num_Reader_Upto_c hR hb hl fun w1 hR1 k1 => ⟨_, rfl, (uVal left 0 8192).toNat + 1, ?_⟩
  have hu := uVal_range (err := 0) (most := 8192) hb (by decide)
  have hll : (uLeft left 0 8192).length ≤ left.length := uLeft_len
  obtain ⟨n, hn⟩ : ∃ n : Nat, uVal left 0 8192 = n := ⟨_, (Int.toNat_of_nonneg hu.1).symm⟩
  have := num_read_loop (w0 := w) (tot := readT left) (fun i hi => (hR.lt hi).2) hK n w1 (uLeft left 0 8192) [] (uErr left 0 8192) 0 none 0 hR1 (uLeft_bytes hb) (by omega) k1 (World.ownsRow_nil _ _ _ _) (by simp; omega) (by decide) (by decide)
    (by unfold readT; rw [hn, Int.toNat_natCast, List.nil_append]) (by unfold readT; rw [hn, Int.toNat_natCast])
  rw [hn, Int.toNat_natCast]
  exact this
theorem RdV.err_cell {ty : TypeId} {w : World} {b : Nat} {p : Option Addr} {left : List Int} {err : Int} {F : Nat → Prop} (h : RdV ty w b p left err F) : ∃ a, p = some a ∧ w.cell? (a.add 1) = some (.int .i64 err) := by
  obtain ⟨t, A, c, rfl, hbt, hB, hc, hx, hg, rfl⟩ := h
  exact ⟨_, rfl, hB.cell' (j := 1) rfl⟩
theorem ref_read_loop {w0 : World} {b : Nat} {p : Option Addr} {F : Nat → Prop} {tot : List Int × Int × List Int} {n : Nat} {K : Value → World → Prop} (hF : ∀ i, F i → i < w0.heap.size) (hn8 : n ≤ 8192)
    (hK : ∀ B m cb w', m = (if tot.2.1 ≠ 0 then [] else tot.1).length → w'.ownsRow w0.heap.size Ty.int 1 (.slice B m cb) m (nums .i64 (if tot.2.1 ≠ 0 then [] else tot.1)) → RdV Ty.ref01_Reader w' b p tot.2.2 tot.2.1 F → Kp (pt p) w0 w' → K (.slice B m cb) w') :
    ∀ (d : Nat) (w : World) (left acc : List Int) (err next : Int) (A : Option Addr) (c : Nat), RdV Ty.ref01_Reader w b p left err F → Bytes left → left.length ≤ 1000000000000000 → Kp (pt p) w0 w → w.ownsRow w0.heap.size Ty.int 1 (.slice A acc.length c) acc.length (nums .i64 acc) → acc.length + d = n →
    0 ≤ next → next ≤ (acc.length : Int) * 70000 → acc ++ (readF d (8 * next) left err).1 = tot.1 → (readF d (8 * next) left err).2 = tot.2 → ref16_Read.l0 K (d + 1) p n next A acc.length c acc.length w := by
  have fin : ∀ (w : World) (left acc : List Int) (err : Int) (A : Option Addr) (c : Nat), RdV Ty.ref01_Reader w b p left err F → Kp (pt p) w0 w → w.ownsRow w0.heap.size Ty.int 1 (.slice A acc.length c) acc.length (nums .i64 acc) → acc = tot.1 → (err, left) = tot.2 → ref16_Read.p11 K p A acc.length c w := fun w left acc err A c hR hk ho e1 e2 => by
    obtain ⟨a, ea, hc⟩ := hR.err_cell
    refine ⟨a, ea, _, hc, ?_⟩
    have e3 : tot.2.1 = err := by rw [← e2]
    have e4 : tot.2.2 = left := by rw [← e2]
    rw [e3, e4, ← e1] at hK
    refine cond_ne (fun h => ?_) (fun h => ?_)
    · rw [if_pos h] at hK
      exact hK none 0 0 w rfl (World.ownsRow_nil _ _ _ _) hR hk
    · rw [if_neg (fun g => g h)] at hK
      exact hK A _ c w rfl ho hR hk
  intro d
  induction d with
  | zero =>
    intro w left acc err next A c hR hb hl hk ho hn h0 h1 e1 e2
    rw [ref16_Read.l0_succ]
    refine cond_dec (fun h => by omega) (fun _ => ?_)
    rw [readF, List.append_nil] at e1
    exact fin w left acc err A c hR hk ho e1 e2
  | succ d ih =>
    intro w left acc err next A c hR hb hl hk ho hn h0 h1 e1 e2
    rw [ref16_Read.l0_succ]
    refine cond_dec (fun _ => ?_) (fun h => absurd h (by omega))
    obtain ⟨a, ea, hc⟩ := hR.err_cell
    refine ⟨a, ea, _, hc, cond_eq (fun he => ?_) (fun he => ?_)⟩
    · subst he
      rw [readF, if_neg (fun h => h rfl)] at e1 e2
      refine ref01_Reader_Upto_c hR hb hl (by decide) fun w1 hR1 k1 => ⟨_, rfl, ?_⟩
      have hu := uVal_range (err := 0) (most := 8192) hb (by decide)
      have hbl : Bytes (uLeft left 0 8192) := uLeft_bytes hb
      have hll : (uLeft left 0 8192).length ≤ left.length := uLeft_len
      generalize uVal left 0 8192 = v at e1 e2 hu
      generalize uLeft left 0 8192 = lf at e1 e2 hR1 hbl hll
      generalize uErr left 0 8192 = e at e1 e2 hR1
      have k1' := hk.trans k1 (fun _ _ h => h) (fun _ _ h => h)
      have ho1 := own_kp ho k1 (fun g hg hp => own_app ho hF g (hR.pt hp) hg)
      have ex : IntKind.wrap .i64 (next + IntKind.wrap .i64 v) = next + v := by rw [wrap64_in (x := v) (by omega) (by omega), wrap64_in (by omega) (by omega)]
      have e8 : IntKind.wrap .i64 (8 * (next + v)) = 8 * next + 8 * v := by rw [wrap64_in (by omega) (by omega)]; omega
      rw [ex]
      have go : ∀ (w2 : World) (e' : Int), RdV Ty.ref01_Reader w2 b p lf e' F → Kp (pt p) w0 w2 → w2.ownsRow w0.heap.size Ty.int 1 (.slice A acc.length c) acc.length (nums .i64 acc) → acc ++ (8 * next + 8 * v) :: (readF d (8 * next + 8 * v + 8) lf e').1 = tot.1 → (readF d (8 * next + 8 * v + 8) lf e').2 = tot.2 →
          ref16_Read.p9 (ref16_Read.l0 K (d + 1)) K p n A acc.length c acc.length (next + v) w2 := fun w2 e' hR2 k2 ho2 f1 f2 => by
        unfold ref16_Read.p9
        rw [e8]
        refine wlet_intro fun w3 h3 => ?_
        have hal : Below w2.heap.size w2 w3 := by rw [h3]; exact (Below.refl _ _).alloc (Nat.le_refl _) _
        have hz : Blk w3 w2.heap.size Ty.int (nums .i64 [8 * next + 8 * v]) := by rw [h3]; exact Blk.new w2 Ty.int _
        clear h3
        have ho3 := own_below_kp ho2 hal
        have k3 := k2.trans (Kp.of_below hal) (fun _ _ h => h) (fun _ _ h => h.elim)
        refine app_i64 (m := 1) ho3 rfl (Cs.of_blk0 hz) (by omega) k3.size fun A' c' w4 ho4 hm4 => ⟨_, _, _, rfl, ?_⟩
        have hR4 := (hR2.below hal).kp hm4.kp (own_app ho3 hF)
        have k4 := kp_app k3 ho3 hm4
        show ref16_Read.l0 K (d + 1) p n (IntKind.wrap .i64 (next + v + 1)) A' _ c' (IntKind.wrap .i64 ((acc.length : Int) + 1)) w4
        rw [wrap64_in (x := next + v + 1) (by omega) (by omega), cst acc.length (by omega)]
        have el : acc.length + 1 = (acc ++ [8 * next + 8 * v]).length := by simp
        rw [el] at ho4 ⊢
        have e88 : 8 * (next + v + 1) = 8 * next + 8 * v + 8 := by omega
        exact ih w4 lf _ e' _ A' c' hR4 hbl (by omega) k4 ho4 (by rw [← el]; omega) (by omega) (by rw [← el]; push_cast; omega) (by rw [List.append_assoc, e88]; exact f1) (by rw [e88]; exact f2)
      obtain ⟨a1, ea1, hc1⟩ := hR1.err_cell
      refine ⟨a1, ea1, _, hc1, ?_⟩
      rw [e8]
      refine cond_eq (fun he => ?_) (fun he => ?_)
      · refine cond_dec (fun hx => ?_) (fun hx => ?_)
        · rw [if_pos hx] at e1 e2
          refine ref01_Reader_Fail_c hR1 fun w2 hR2 k2 => ⟨rfl, ?_⟩
          exact go w2 _ hR2 (k1'.trans k2 (fun _ _ h => h) (fun _ _ h => h)) (own_kp ho1 k2 (fun g hg hp => own_app ho hF g (hR.pt hp) hg)) e1 e2
        · rw [if_neg hx] at e1 e2
          exact go w1 _ hR1 k1' ho1 e1 e2
      · have ef : (if 65527 < 8 * next + 8 * v then failV e 4 else e) = e := by unfold failV; rw [if_neg he]; split <;> rfl
        rw [ef] at e1 e2
        refine condP_f ?_
        exact go w1 _ hR1 k1' ho1 e1 e2
    · rw [readF_err he] at e1 e2
      rw [List.append_nil] at e1
      exact fin w left acc err A c hR hk ho e1 e2
theorem ref16_Read_c {w : World} {b : Nat} {p : Option Addr} {left : List Int} {F : Nat → Prop} {K : Value → World → Prop} (hR : RdV Ty.ref01_Reader w b p left 0 F) (hb : Bytes left) (hl : left.length ≤ 1000000000000000)
    (hK : ∀ B m cb w', m = (readV left).length → w'.ownsRow w.heap.size Ty.int 1 (.slice B m cb) m (nums .i64 (readV left)) → RdV Ty.ref01_Reader w' b p (readT left).2.2 (readT left).2.1 F → Kp (pt p) w w' → K (.slice B m cb) w') : CallsE Pg ref16_Read.N #[.pointer p] w K := by
  refine ref16_Read.ok ?_
  refine ref01_Reader_Upto_c hR hb hl (by decide) fun w1 hR1 k1 => ⟨_, rfl, ?_⟩
  have hu := uVal_range (err := 0) (most := 8192) hb (by decide)
  have hll : (uLeft left 0 8192).length ≤ left.length := uLeft_len
  obtain ⟨n, hn⟩ : ∃ n : Nat, uVal left 0 8192 = n := ⟨_, (Int.toNat_of_nonneg hu.1).symm⟩
  have := ref_read_loop (w0 := w) (n := n) (tot := readT left) (fun i hi => (hR.lt hi).2) (by omega) hK n w1 (uLeft left 0 8192) [] (uErr left 0 8192) 0 none 0 hR1 (uLeft_bytes hb) (by omega) k1 (World.ownsRow_nil _ _ _ _) (by simp) (by decide) (by decide)
    (by unfold readT; rw [hn, Int.toNat_natCast, List.nil_append]; rfl) (by unfold readT; rw [hn, Int.toNat_natCast]; rfl)
  rw [hn, wrap64_in (by omega) (by omega)]
  exact ⟨n + 1, this⟩

end Go.Proofs.Ytfigojigigkdmaa.C
