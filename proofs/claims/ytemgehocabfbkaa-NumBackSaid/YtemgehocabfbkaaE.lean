/-
  Parts of the proofs of this seat: what the functions compute. No condition beyond what each theorem states.
-/
import Derived.Test.YtemgehocabfbkaaF
import Derived.Test.YtemgehocabfbkaaRK
import Derived.Test.YtemgehocabfbkaaB
import Derived.Test.YtemgehocabfbkaaC
import Derived.Test.YtemgehocabfbkaaD
set_option linter.unusedVariables false
set_option linter.unusedSimpArgs false
set_option maxRecDepth 100000
namespace Go.Proofs.Ytemgehocabfbkaa.C
open Go Go.RowKit Go.Proofs.Ytemgehocabfbkaa Go.Proofs.Ytemgehocabfbkaa.Sh Go.Proofs.Ytemgehocabfbkaa.F Go.Proofs.Ytemgehocabfbkaa.R

/-! ### NumBack -/
structure NItem where
  kind : Int
  width : Int
  n : Int
  A : Option Addr
  m : Nat
  c : Nat
  bs : List Int
def NItem.cells (x : NItem) : List Value := [.int .i64 x.kind, .int .i64 x.width, .int .u64 x.n, .slice x.A x.m x.c]
theorem NItem.cells_len (c : NItem) : c.cells.length = 4 := rfl
def NItemOk (w : World) (x : NItem) : Prop := U64 x.n ∧ Cs w x.A (nums .u8 x.bs) ∧ x.m = x.bs.length ∧ Bytes x.bs ∧ x.m ≤ x.c
abbrev RdItem := RdAgg [(1, RdInt .i64), (1, RdInt .i64), (1, RdInt .u64), (1, RdSlice 1 1 (RdInt .u8))]
theorem bytes_rows : ∀ {rows : List (List Value)} {w : World}, (∀ r ∈ rows, r.length = 1 ∧ RdInt .u8 w r) → ∃ bs : List Int, Bytes bs ∧ rows.flatten = nums .u8 bs ∧ rows.length = bs.length
  | [], w, _ => ⟨[], fun x hx => (by cases hx), rfl, rfl⟩
  | r :: rows, w, h => by
    obtain ⟨bs, h1, h2, h3⟩ := bytes_rows (rows := rows) (w := w) (fun r' hr' => h r' (List.mem_cons_of_mem _ hr'))
    obtain ⟨_, n, rfl, hn⟩ := h r (by simp)
    refine ⟨n :: bs, fun x hx => ?_, by rw [List.flatten_cons, h2]; rfl, by simp [h3]⟩
    rcases List.mem_cons.1 hx with rfl | hx
    · exact wf_u8 hn
    · exact h1 x hx
theorem item_of {w : World} {cs : List Value} (h : RdItem w cs) : ∃ x : NItem, NItemOk w x ∧ cs = x.cells := by
  obtain ⟨_, _, rfl, _, ⟨n0, rfl, h0⟩, _, _, rfl, _, ⟨n1, rfl, h1⟩, _, _, rfl, _, ⟨n2, rfl, h2⟩, _, _, rfl, _, ⟨A, m, c, rows, rfl, h3, h4, h5, h6, h7⟩, rfl⟩ := h
  obtain ⟨bs, hb, he, hl⟩ := bytes_rows h7
  exact ⟨⟨n0, n1, n2, A, m, c, bs⟩, ⟨wf_u64 h2, by rw [he] at h6; exact h6, by rw [← h5, hl], hb, h3⟩, rfl⟩
theorem item_at {w : World} {A : Option Addr} {l : List NItem} (h : Cs w A (l.flatMap NItem.cells)) {k : Nat} {r : NItem} (hk : l[k]? = some r) :
    ∃ a, A = some a ∧ w.cell? (a.add (k * 4)) = some (.int .i64 r.kind) ∧ w.cell? ((a.add (k * 4)).add 1) = some (.int .i64 r.width) ∧ w.cell? ((a.add (k * 4)).add 2) = some (.int .u64 r.n) ∧ w.cell? ((a.add (k * 4)).add 3) = some (.slice r.A r.m r.c) := by
  obtain ⟨a, e, hc⟩ := h.row NItem.cells_len hk (by decide)
  exact ⟨a, e, hc 0 _ rfl, hc 1 _ rfl, hc 2 _ rfl, hc 3 _ rfl⟩
def NItem.enc (x : NItem) : List Int := if x.kind = 0 then varB x.n else if x.kind = 1 then putB x.n 8 else x.bs
theorem NItem.enc_bytes {w : World} {x : NItem} (h : NItemOk w x) : Bytes x.enc := by
  unfold NItem.enc
  (repeat' split)
  · exact varB_bytes h.1
  · exact putB_bytes _ _
  · exact h.2.2.2.1
theorem NItem.enc_len {w : World} {x : NItem} (h : NItemOk w x) (hm : x.m ≤ 1000) : x.enc.length ≤ 1000 := by
  unfold NItem.enc
  have := varF_len 9 x.n
  have := h.2.2.1
  (repeat' split)
  · unfold varB; omega
  · rw [putB_len]; omega
  · omega
/-- What is written of a number is read as that number. -/
theorem scan_varB : ∀ (f i : Nat) (acc n : Int) (rest : List Int), f + i = 9 → 0 ≤ n → (0 < i → 1 ≤ n) → n * ((128 ^ i : Nat) : Int) < 18446744073709551616 → scan i acc (varF f n ++ rest) = (acc + n * ((128 ^ i : Nat) : Int), 0, i + (varF f n).length)
  | 0, i, acc, n, rest, hi, h0, h1, hb => by
    obtain rfl : i = 9 := by omega
    have hn := h1 (by decide)
    have e9 : ((128 ^ 9 : Nat) : Int) = 9223372036854775808 := by decide
    rw [e9] at hb ⊢
    rw [varF, List.singleton_append, scan, if_neg (by omega), if_pos (by omega), e9]
    rfl
  | f + 1, i, acc, n, rest, hi, h0, h1, hb => by
    by_cases h : n < 128
    · rw [varF, if_pos h, List.singleton_append, scan, if_neg (by omega), if_pos h]
      rfl
    · rw [varF, if_neg h, List.cons_append, scan, if_neg (by omega), if_neg (by omega)]
      have ep : ((128 ^ (i + 1) : Nat) : Int) = 128 * ((128 ^ i : Nat) : Int) := by rw [Nat.pow_succ]; push_cast; omega
      have hp : (0 : Int) < ((128 ^ i : Nat) : Int) := by have := Nat.pow_pos (n := i) (show 0 < 128 by decide); omega
      have em : (n % 128 + 128) % 128 = n % 128 := by omega
      have eq : n / 128 * ((128 ^ (i + 1) : Nat) : Int) + n % 128 * ((128 ^ i : Nat) : Int) = n * ((128 ^ i : Nat) : Int) := by
        have hn : n = n / 128 * 128 + n % 128 := by omega
        rw [ep]
        conv => rhs; rw [hn, Int.add_mul]
        rw [← Int.mul_assoc]
      have hr : (0 : Int) ≤ n % 128 * ((128 ^ i : Nat) : Int) := Int.mul_nonneg (by omega) (by omega)
      have ih := scan_varB f (i + 1) (acc + (n % 128 + 128) % 128 * ((128 ^ i : Nat) : Int)) (n / 128) rest (by omega) (by omega) (fun _ => by omega) (by omega)
      rw [ih, em, List.length_cons]
      refine Prod.ext ?_ (Prod.ext rfl ?_)
      · show acc + n % 128 * ((128 ^ i : Nat) : Int) + n / 128 * ((128 ^ (i + 1) : Nat) : Int) = acc + n * ((128 ^ i : Nat) : Int)
        omega
      · show i + 1 + (varF f (n / 128)).length = i + ((varF f (n / 128)).length + 1)
        omega
theorem scan_back {n : Int} (h : U64 n) (rest : List Int) : scan 0 0 (varB n ++ rest) = (n, 0, (varB n).length) := by
  have := scan_varB 9 0 0 n rest rfl h.1 (fun h => by omega) (by have := h.2; simp; omega)
  unfold varB
  rw [this]
  simp
theorem back_write {w0 : World} {A : Option Addr} {n c : Nat} {l : List NItem} {K : Value → World → Prop} (hx : Cs w0 A (l.flatMap NItem.cells)) (hn : n = l.length) (hn1 : n ≤ 100) (hok : ∀ x ∈ l, NItemOk w0 x) (hT : ∀ w', Below w0.heap.size w0 w' → K (.bool true) w')
    (hK : ∀ w' B cb, Below w0.heap.size w0 w' → w'.ownsRow w0.heap.size Ty.uint8 1 (.slice B (l.flatMap NItem.enc).length cb) (l.flatMap NItem.enc).length (nums .u8 (l.flatMap NItem.enc)) → (∀ x ∈ l, x.m ≤ 1000) → law01_NumBack.p8 K A n c B (l.flatMap NItem.enc).length cb w') :
    ∀ (d k : Nat) (w : World) (acc : List Int) (B : Option Addr) (cb : Nat), k + d = n → Below w0.heap.size w0 w → acc = (l.take k).flatMap NItem.enc → acc.length ≤ 1000 * k → (∀ x ∈ l.take k, x.m ≤ 1000) → w.ownsRow w0.heap.size Ty.uint8 1 (.slice B acc.length cb) acc.length (nums .u8 acc) →
    law01_NumBack.l0 K (d + 1) A n c B acc.length cb A n c n k w := by
  intro d
  induction d with
  | zero =>
    intro k w acc B cb hk hb ha hal hm ho
    rw [law01_NumBack.l0_succ]
    show condP (decide ((k : Int) < _)) _ _
    refine cond_dec (fun h => by omega) (fun _ => ?_)
    rw [List.take_of_length_le (by omega)] at ha hm
    subst ha
    exact hK w B cb hb ho hm
  | succ d ih =>
    intro k w acc B cb hk hb ha hal hm ho
    rw [law01_NumBack.l0_succ]
    show condP (decide ((k : Int) < _)) _ _
    refine cond_dec (fun _ => ?_) (fun h => absurd h (by omega))
    have hlt : k < l.length := by omega
    have hxk : l[k]? = some l[k] := List.getElem?_eq_getElem hlt
    obtain ⟨a, rfl, c0, c1, c2, c3⟩ := item_at (hx.below hb) hxk
    have hit := hok _ (List.getElem_mem hlt)
    have hts := take_snoc hxk
    refine ⟨⟨by omega, by omega⟩, a, rfl, _, c0, _, c1, _, c2, _, _, _, c3, ?_⟩
    refine fresh (vs := l[k].cells) rfl fun w1 hB hb1 _ => ?_
    have hb2 := hb.trans (hb1.mono hb.size)
    have ho1 := own_below_kp ho hb1
    refine ⟨_, _, _, hB.cell' (j := 3) rfl, cond_dec (fun _ => hT w1 hb2) (fun hsm => ⟨_, hB.cell' (j := 0) rfl, ?_⟩)⟩
    have hm1 : l[k].m ≤ 1000 := by omega
    have hel := NItem.enc_len hit hm1
    have next : ∀ (w2 : World) (S : World) (B2 : Option Addr) (m2 c2' : Nat), Below w0.heap.size w0 S → S.ownsRow w0.heap.size Ty.uint8 1 (.slice B acc.length cb) acc.length (nums .u8 acc) → m2 = l[k].enc.length → Cs S B2 (nums .u8 l[k].enc) →
        SemJ Pg (Builtin.append_ #[Ty.sl_uint8, Ty.sl_uint8] Ty.sl_uint8 #[.slice B acc.length cb, .slice B2 m2 c2']) (fun v26 w27 => ∃ (A28 : Option Addr) (m29 : Nat) (c30 : Nat), v26 = .slice A28 m29 c30 ∧ law01_NumBack.p7 (law01_NumBack.l0 K (d + 1)) K (some a) n c A28 m29 c30 (some a) n c n k w27) S := fun _ S B2 m2 c2' hbS hoS hm2 hxS => by
      refine app_bytes hoS hm2 hxS (by omega) hbS.size fun A' c' w3 ho3 hm3 => ⟨_, _, _, rfl, ?_⟩
      show law01_NumBack.l0 K (d + 1) (some a) n c A' (acc.length + m2) c' (some a) n c n (IntKind.wrap .i64 ((k : Int) + 1)) w3
      rw [cst k (by omega)]
      have el : acc.length + m2 = (acc ++ l[k].enc).length := by rw [List.length_append, hm2]
      rw [el] at ho3 ⊢
      refine ih (k + 1) w3 _ A' c' (by omega) (hbS.trans (hm3.kp.below hbS.size fun i hi e => by have := (own_lt hoS e).1; omega)) (by rw [hts, List.flatMap_append, ha]; simp) (by rw [List.length_append]; omega) (fun x hx' => ?_) ho3
      rw [hts] at hx'
      rcases List.mem_append.1 hx' with h | h
      · exact hm x h
      · rw [List.mem_singleton.1 h]; exact hm1
    unfold NItem.enc at next
    refine cond_eq (fun k0 => ⟨_, hB.cell' (j := 2) rfl, num_Var_c hit.1 fun A2 c2' w2 o2 b2 => ⟨_, _, _, rfl, ?_⟩⟩) (fun k0 => cond_eq (fun k1 => ⟨_, hB.cell' (j := 2) rfl, num_Put_c hit.1 fun A2 c2' w2 o2 b2 => ⟨_, _, _, rfl, ?_⟩⟩) (fun k1 => ⟨_, _, _, hB.cell' (j := 3) rfl, ?_⟩))
    · rw [if_pos k0] at next
      exact next w2 w2 A2 _ c2' (hb2.trans (b2.mono hb2.size)) (own_below_kp ho1 b2) rfl (Cs.ofOwn o2)
    · rw [if_neg k0, if_pos k1] at next
      exact next w2 w2 A2 _ c2' (hb2.trans (b2.mono hb2.size)) (own_below_kp ho1 b2) (putB_len _ _).symm (Cs.ofOwn o2)
    · rw [if_neg k0, if_neg k1] at next
      exact next w1 w1 l[k].A _ l[k].c hb2 ho1 hit.2.2.1 (hit.2.1.below hb2)
theorem back_read {w0 : World} {A : Option Addr} {n c : Nat} {l : List NItem} {p : Option Addr} {F : Nat → Prop} {K : Value → World → Prop} (hx : Cs w0 A (l.flatMap NItem.cells)) (hn : n = l.length) (hn1 : n ≤ 100) (hok : ∀ x ∈ l, NItemOk w0 x) (hm : ∀ x ∈ l, x.m ≤ 1000) (hT : ∀ w', Below w0.heap.size w0 w' → K (.bool true) w') :
    ∀ (d k : Nat) (w : World), k + d = n → Below w0.heap.size w0 w → RdV Ty.num_Reader w w0.heap.size p ((l.drop k).flatMap NItem.enc) 0 F → ((l.drop k).flatMap NItem.enc).length ≤ 100000 → law01_NumBack.l1 K (d + 1) p A n c n k w := by
  intro d
  induction d with
  | zero =>
    intro k w hk hb hR hl
    rw [law01_NumBack.l1_succ]
    show condP (decide ((k : Int) < _)) _ _
    refine cond_dec (fun h => by omega) (fun _ => ?_)
    rw [List.drop_of_length_le (by omega)] at hR
    refine num_Reader_Err_c hR ⟨_, rfl, cond_eq (fun _ => ?_) (fun h => absurd rfl h)⟩
    refine num_Reader_End_c hR ⟨_, rfl, cond_eq (fun _ => ?_) (fun h => absurd (by decide) h)⟩
    exact num_Reader_Left_c hR ⟨_, rfl, hT w hb⟩
  | succ d ih =>
    intro k w hk hb hR hl
    rw [law01_NumBack.l1_succ]
    show condP (decide ((k : Int) < _)) _ _
    refine cond_dec (fun _ => ?_) (fun h => absurd h (by omega))
    have hlt : k < l.length := by omega
    have hxk : l[k]? = some l[k] := List.getElem?_eq_getElem hlt
    obtain ⟨a, rfl, c0, c1, c2, c3⟩ := item_at (hx.below hb) hxk
    have hit := hok _ (List.getElem_mem hlt)
    have hall : Bytes ((l.drop k).flatMap NItem.enc) := fun y hy => by
      obtain ⟨x, hx1, hx2⟩ := List.mem_flatMap.1 hy
      exact NItem.enc_bytes (hok x (List.mem_of_mem_drop hx1)) y hx2
    have hsp : (l.drop k).flatMap NItem.enc = l[k].enc ++ (l.drop (k + 1)).flatMap NItem.enc := by rw [List.drop_eq_getElem_cons hlt, List.flatMap_cons]
    rw [hsp] at hR hall hl
    rw [List.length_append] at hl
    generalize hrest : (l.drop (k + 1)).flatMap NItem.enc = rest at hR hall hl
    have hin := List.getElem_mem hlt
    refine ⟨⟨by omega, by omega⟩, a, rfl, _, c0, _, c1, _, c2, _, _, _, c3, ?_⟩
    refine fresh (vs := l[k].cells) rfl fun w1 hB hb1 _ => ?_
    have hb2 := hb.trans (hb1.mono hb.size)
    have hR1 := hR.below hb1
    have hC : ∀ {w2 : World}, Kp (C.pt p) w1 w2 → Blk w2 w.heap.size Ty.law01_Item l[k].cells := fun k1 => hB.kp k1 (fun hp => by have := (hR.lt (hR.pt hp)).2; omega)
    have heldC : ∀ (j : Nat) (v : Value), l[k].cells[j]? = some v → ∀ w' : World, w'.heap[w.heap.size]? = some (.cells ⟨l[k].cells⟩ Ty.law01_Item (0, 0)) → w'.cell? ⟨w.heap.size, j, none⟩ = some v := fun j v hv w' h' => Blk.cell' (show Blk w' w.heap.size Ty.law01_Item l[k].cells from h') hv
    have next : ∀ w2, Kp (C.pt p) w1 w2 → RdV Ty.num_Reader w2 w0.heap.size p rest 0 F → law01_NumBack.p17 (law01_NumBack.l1 K (d + 1)) K p (some a) n c n k w2 := fun w2 k2 hR2 => by
      show law01_NumBack.l1 K (d + 1) p (some a) n c n (IntKind.wrap .i64 ((k : Int) + 1)) w2
      rw [cst k (by omega)]
      exact ih (k + 1) w2 (by omega) (hb2.trans (hR1.under (Nat.le_refl _) hb2.size k2)) (by rw [hrest]; exact hR2) (by rw [hrest]; omega)
    refine ⟨_, hB.cell' (j := 0) rfl, ?_⟩
    show law01_NumBack.p15 (law01_NumBack.l1 K (d + 1)) K p ⟨w.heap.size, 0, none⟩ (some a) n c n k l[k].kind (l[k].kind == (0 : Int)) w1
    unfold NItem.enc at hR1 hall hl
    refine cond_eq (fun k0 => ?_) (fun k0 => cond_eq (fun k1 => ?_) (fun k1 => ?_))
    · rw [if_pos k0] at hR1 hall hl
      have hs := scan_back hit.1 rest
      have ev : vVal (varB l[k].n ++ rest) 0 = l[k].n := by unfold vVal; rw [if_neg (by decide), hs]
      refine ⟨fun H => H[w.heap.size]? = some (.cells ⟨l[k].cells⟩ Ty.law01_Item (0, 0)), hB, _, heldC 2 _ rfl, _, heldC 2 _ rfl, ?_⟩
      refine num_Reader_Upto_c hR1 hall (by rw [List.length_append]; omega) fun w2 hR2 k2 => ⟨_, rfl, hC k2, ?_⟩
      have hno : ¬ l[k].n < vVal (varB l[k].n ++ rest) 0 := by rw [ev]; omega
      have eu : uVal (varB l[k].n ++ rest) 0 l[k].n = l[k].n := by unfold uVal; rw [if_neg hno, ev]
      have : (uVal (varB l[k].n ++ rest) 0 l[k].n != l[k].n) = false := by rw [eu]; simp
      rw [this]
      unfold uLeft uErr vLeft vErr at hR2
      rw [if_neg hno, if_neg hno, if_neg (by decide), if_neg (by decide), hs, List.drop_left' rfl] at hR2
      exact next w2 k2 hR2
    · rw [if_neg k0, if_pos k1] at hR1 hall hl
      refine ⟨fun H => H[w.heap.size]? = some (.cells ⟨l[k].cells⟩ Ty.law01_Item (0, 0)), hB, _, heldC 2 _ rfl, ?_⟩
      refine num_Reader_Fixed_c (n := 8) hR1 (by rw [List.length_append]; omega) hall fun w2 hR2 k2 => ⟨_, rfl, hC k2, ?_⟩
      have h8 : (widthV 8 : Int) = 8 := by decide
      have hno : ¬ ((0 : Int) ≠ 0 ∨ (8 : Int) ≤ 0) := by decide
      have hno2 : ¬ (((putB l[k].n 8 ++ rest).length : Nat) : Int) < 8 := by rw [List.length_append, putB_len]; omega
      have e8 : (8 : Int).toNat = 8 := rfl
      unfold bLeft bErr at hR2
      rw [h8, if_neg hno, if_neg hno, if_neg hno2, if_neg hno2, e8, List.drop_left' (putB_len _ _)] at hR2
      have eo : bOut (putB l[k].n 8 ++ rest) 0 (widthV 8) = putB l[k].n 8 := by
        unfold bOut
        rw [h8, if_neg hno, if_neg hno2, e8, List.take_left' (putB_len _ _)]
      have : (getV (bOut (putB l[k].n 8 ++ rest) 0 (widthV 8)) != l[k].n) = false := by rw [eo, getV_put8 hit.1]; simp
      rw [this]
      exact next w2 k2 hR2
    · rw [if_neg k0, if_neg k1] at hR1 hall hl
      have hml := hit.2.2.1
      refine ⟨fun H => H[w.heap.size]? = some (.cells ⟨l[k].cells⟩ Ty.law01_Item (0, 0)), hB, _, _, _, heldC 3 _ rfl, _, _, _, heldC 3 _ rfl, ?_⟩
      refine num_Reader_Bytes_c hR1 (by rw [List.length_append]; omega) fun A2 c2' w2 hR2 o2 k2 => ⟨_, _, _, rfl, hC k2, ?_⟩
      have eo : bOut (l[k].bs ++ rest) 0 (l[k].m : Int) = l[k].bs := by
        unfold bOut
        by_cases h0 : (l[k].m : Int) ≤ 0
        · rw [if_pos (.inr h0)]
          exact (List.eq_nil_of_length_eq_zero (by omega)).symm
        · rw [if_neg (by omega), if_neg (by rw [List.length_append]; omega), Int.toNat_natCast, hml, List.take_left' rfl]
      have el : bLeft (l[k].bs ++ rest) 0 (l[k].m : Int) = rest := by
        unfold bLeft
        by_cases h0 : (l[k].m : Int) ≤ 0
        · rw [if_pos (.inr h0), List.eq_nil_of_length_eq_zero (show l[k].bs.length = 0 by omega), List.nil_append]
        · rw [if_neg (by omega), if_neg (by rw [List.length_append]; omega), Int.toNat_natCast, hml, List.drop_left' rfl]
      have ee : bErr (l[k].bs ++ rest) 0 (l[k].m : Int) = 0 := by
        unfold bErr
        by_cases h0 : (l[k].m : Int) ≤ 0
        · rw [if_pos (.inr h0)]
        · rw [if_neg (by omega), if_neg (by rw [List.length_append]; omega)]
      rw [eo] at o2 ⊢
      rw [el, ee] at hR2
      have hb3 := hb2.trans (hR1.under (Nat.le_refl _) hb2.size k2)
      exact ref01_Same_c (Cs.ofOwn o2) (hit.2.1.below hb3) rfl hml hit.2.2.2.1 ⟨_, rfl, hC k2, next w2 k2 hR2⟩
theorem law_NumBack (w : World) (A : Option Addr) (n c : Nat) (hz : RdSlice 48 4 RdItem w [.slice A n c]) : CallsE Pg law01_NumBack.N #[.slice A n c] w (fun v w' => v = .bool true ∧ Below w.heap.size w w') := by
  obtain ⟨l, hx, hn, hsb, hok⟩ := list_of (f := NItem.cells) hz (fun cs h => item_of h)
  refine law01_NumBack.ok (law01_alive_c fun w1 b1 => ⟨_, rfl, condP_nt ?_⟩)
  refine cond_dec (fun _ => ⟨rfl, b1⟩) (fun h100 => ⟨n + 1, ?_⟩)
  have hok1 : ∀ x ∈ l, NItemOk w1 x := fun x hx' => by
    obtain ⟨h1, h2, h3⟩ := hok x hx'
    exact ⟨h1, h2.below b1, h3⟩
  have hlen : ∀ l : List NItem, (∀ x ∈ l, NItemOk w1 x) → (∀ x ∈ l, x.m ≤ 1000) → (l.flatMap NItem.enc).length ≤ 1000 * l.length := by
    intro l
    induction l with
    | nil => intro _ _; simp
    | cons x l ih =>
      intro h1 h2
      have := ih (fun y hy => h1 y (List.mem_cons_of_mem _ hy)) (fun y hy => h2 y (List.mem_cons_of_mem _ hy))
      have := NItem.enc_len (h1 x (by simp)) (h2 x (by simp))
      rw [List.flatMap_cons, List.length_append, List.length_cons]
      omega
  refine back_write (w0 := w1) (hx.below b1) hn (by omega) hok1 (fun w' h => ⟨rfl, b1.trans (h.mono b1.size)⟩) (fun w2 B cb b2 ho hm => ?_) n 0 w1 [] none 0 (by omega) (Below.refl _ _) (by simp) (by simp) (by simp) (World.ownsRow_nil _ _ _ _)
  have hl := hlen l hok1 hm
  refine num_Open_c (Cs.ofOwn ho) rfl (by omega) fun w3 p F hR b3 => ⟨_, rfl, n + 1, ?_⟩
  have b3' := b2.trans (b3.mono b2.size)
  exact back_read (w0 := w1) (hx.below b1) hn (by omega) hok1 hm (fun w' h => ⟨rfl, b1.trans (h.mono b1.size)⟩) n 0 w3 (by omega) b3' (by simpa using hR.base b2.size) (by rw [List.drop_zero]; omega)

end Go.Proofs.Ytemgehocabfbkaa.C
