/-
  Parts of the proofs of this seat: what the functions compute. No condition beyond what each theorem states.
-/
import Derived.Test.YtebnmecioifijaaDoorF
import Derived.Test.YtebnmecioifijaaDoorRK
import Derived.Test.YtebnmecioifijaaDoorA
import Derived.Test.YtebnmecioifijaaDoorB
import Derived.Test.YtebnmecioifijaaDoorC
import Derived.Test.YtebnmecioifijaaDoorD
import Derived.Test.YtebnmecioifijaaDoorE
set_option linter.unusedVariables false
set_option linter.unusedSimpArgs false
set_option maxRecDepth 100000
namespace Go.Proofs.YtebnmecioifijaaDoor.C
open Go Go.RowKit Go.Proofs.YtebnmecioifijaaDoor Go.Proofs.YtebnmecioifijaaDoor.Sh Go.Proofs.YtebnmecioifijaaDoor.F Go.Proofs.YtebnmecioifijaaDoor.R

/-! ### the laws' own functions -/
theorem putS_no {S : Nat → Bool} {n : Nat} {i : Int} {v : Bool} (h : canPut S n i v = false) : putS S n i v = S := by unfold putS; rw [h]; rfl
theorem putS_yes {S : Nat → Bool} {n : Nat} {i : Int} {v : Bool} (h : canPut S n i v = true) : putS S n i v = upd S i.toNat v := by unfold putS; rw [h]; rfl
theorem law03_alive_c {w : World} {K : Value → World → Prop} (hT : Tab w) (h : ∀ w', Below w.heap.size w w' → K (.bool true) w') : CallsE Pg law03_alive.N #[] w K := by
  refine law03_alive.ok (set_New_c fun w1 p F h1 b1 => ⟨_, rfl, ?_⟩)
  have ec : clampN 10 = 10 := by decide
  rw [ec] at h1
  have hw0 : Within noneS 10 := fun i _ => rfl
  have T1 := hT.below b1 hT.lt
  refine set_Set_Add_c h1 hw0 ⟨by decide, by decide⟩ fun w2 h2 k2 => ⟨_, rfl, ?_⟩
  have b2 := b1.trans (h1.under (Nat.le_refl _) b1.size k2)
  rw [show canPut noneS 10 1 true = true from by decide]
  refine condP_nt ?_
  have hw1 : Within (putS noneS 10 1 true) 10 := putS_within hw0
  refine set_Set_Add_c h2 hw1 ⟨by decide, by decide⟩ fun w3 h3 k3 => ⟨_, rfl, ?_⟩
  have b3 := b2.trans (h2.under (Nat.le_refl _) b2.size k3)
  rw [show canPut (putS noneS 10 1 true) 10 9 true = true from by decide]
  refine condP_nt ?_
  have hw2 : Within (putS (putS noneS 10 1 true) 10 9 true) 10 := putS_within hw1
  refine set_Set_Add_c h3 hw2 ⟨by decide, by decide⟩ fun w4 h4 k4 => ⟨_, rfl, ?_⟩
  have b4 := b3.trans (h3.under (Nat.le_refl _) b3.size k4)
  rw [show canPut (putS (putS noneS 10 1 true) 10 9 true) 10 9 true = false from by decide]
  refine condP_f ?_
  have hw3 : Within (putS (putS (putS noneS 10 1 true) 10 9 true) 10 9 true) 10 := putS_within hw2
  have hS : putS (putS (putS noneS 10 1 true) 10 9 true) 10 9 true = fun i => i == 1 || i == 9 := by
    have e1 : canPut (putS (putS noneS 10 1 true) 10 9 true) 10 9 true = false := by decide
    have e2 : canPut (putS noneS 10 1 true) 10 9 true = true := by decide
    have e3 : canPut noneS 10 1 true = true := by decide
    rw [putS_no e1, putS_yes e2, putS_yes e3]
    funext i
    show upd (upd noneS 1 true) 9 true i = _
    unfold upd noneS
    by_cases h9 : i = 9
    · rw [if_pos h9, h9]; rfl
    · rw [if_neg h9]
      by_cases h1 : i = 1
      · rw [if_pos h1, h1]; rfl
      · rw [if_neg h1]
        have f1 : (i == 1) = false := by simpa using h1
        have f9 : (i == 9) = false := by simpa using h9
        rw [f1, f9]; rfl
  rw [hS] at h4 hw3
  have T4 := hT.below b4 hT.lt
  refine set_Set_Bytes_c h4 fun A c w5 o5 b5 => ⟨_, _, _, rfl, ?_⟩
  have b5' := b4.trans (b5.mono b4.size)
  have T5 := hT.below b5' hT.lt
  have h5 := h4.below b5
  have eb : bytL (fun i => i == 1 || i == 9) 10 = [2, 2] := by decide
  rw [eb] at o5
  obtain ⟨a, rfl, d0⟩ := (Cs.ofOwn o5).at (nums_at (k := .u8) (xs := [2, 2]) (j := 0) rfl)
  obtain ⟨a', e, d1⟩ := (Cs.ofOwn o5).at (nums_at (k := .u8) (xs := [2, 2]) (j := 1) rfl)
  cases e
  refine condP_t ⟨⟨by decide, by decide⟩, _, rfl, _, d0, condP_t ⟨⟨by decide, by decide⟩, _, rfl, _, d1, condP_t ?_⟩⟩
  refine set_Set_Count_c h5 hw3 ⟨_, rfl, ?_⟩
  rw [show cnt (fun i => i == 1 || i == 9) 0 10 = 2 from by decide]
  refine condP_t (set_Set_First_c h5 T5 ⟨by decide, by decide⟩ ⟨_, rfl, ?_⟩)
  rw [show nextV (fun i => i == 1 || i == 9) 10 true 2 = 9 from by decide]
  refine condP_t (set_Set_Gap_c h5 T5 ⟨by decide, by decide⟩ ⟨_, rfl, ?_⟩)
  rw [show nextV (fun i => i == 1 || i == 9) 10 false 1 = 2 from by decide]
  refine condP_t (set_Set_Gap_c h5 T5 ⟨by decide, by decide⟩ ⟨_, rfl, ?_⟩)
  rw [show nextV (fun i => i == 1 || i == 9) 10 false 9 = -1 from by decide]
  exact h w5 b5'
structure SCall where
  kind : Int
  i : Int
def SCall.cells (c : SCall) : List Value := [.int .i64 c.kind, .int .i64 c.i]
theorem SCall.cells_len (c : SCall) : c.cells.length = 2 := rfl
abbrev RdSCall := RdAgg [(1, RdInt .i64), (1, RdInt .i64)]
def SCallOk (c : SCall) : Prop := I64 c.kind ∧ I64 c.i
theorem scall_of {w : World} {cs : List Value} (h : RdSCall w cs) : ∃ c : SCall, SCallOk c ∧ cs = c.cells := by
  obtain ⟨_, _, rfl, _, ⟨n0, rfl, h0⟩, _, _, rfl, _, ⟨n1, rfl, h1⟩, rfl⟩ := h
  exact ⟨⟨n0, n1⟩, ⟨wf_i64 h0, wf_i64 h1⟩, rfl⟩
theorem scall_at {w : World} {A : Option Addr} {l : List SCall} (h : Cs w A (l.flatMap SCall.cells)) {k : Nat} {r : SCall} (hk : l[k]? = some r) :
    ∃ a, A = some a ∧ w.cell? (a.add (k * 2)) = some (.int .i64 r.kind) ∧ w.cell? ((a.add (k * 2)).add 1) = some (.int .i64 r.i) := by
  obtain ⟨a, e, hc⟩ := h.row SCall.cells_len hk (by decide)
  exact ⟨a, e, hc 0 _ rfl, hc 1 _ rfl⟩
def stepS (n : Nat) (S : Nat → Bool) (c : SCall) : Nat → Bool := if c.kind = 1 then putS S n c.i true else if c.kind = 2 then putS S n c.i false else S
def runS (n : Nat) : (Nat → Bool) → List SCall → (Nat → Bool)
  | S, [] => S
  | S, c :: l => runS n (stepS n S c) l
theorem stepS_within {S : Nat → Bool} {n : Nat} {c : SCall} (h : Within S n) : Within (stepS n S c) n := by
  unfold stepS
  (repeat' split)
  · exact putS_within h
  · exact putS_within h
  · exact h
theorem runS_within {n : Nat} : ∀ {l : List SCall} {S : Nat → Bool}, Within S n → Within (runS n S l) n
  | [], _, h => h
  | c :: l, _, h => runS_within (l := l) (stepS_within h)
/-- Both sets, side by side: the same places are in. -/
structure Two (w : World) (b : Nat) (p q : Option Addr) (n : Nat) (S : Nat → Bool) : Prop where
  ex : ∃ F G : Nat → Prop, SetV w b p n S F ∧ RefV w b q n S G ∧ ∀ i, F i → ¬ G i
  within : Within S n
theorem plays_loop {w0 : World} {p q : Option Addr} {A : Option Addr} {m c n b : Nat} {cl : List SCall} {Sf : Nat → Bool} {K : Value → World → Prop} (hT : Tab w0) (hx : Cs w0 A (cl.flatMap SCall.cells)) (hm : m = cl.length) (hok : ∀ x ∈ cl, SCallOk x) (hb0 : w0.heap.size ≤ b)
    (hK : ∀ w', Below w0.heap.size w0 w' → Two w' b p q n Sf → K (.tuple #[.pointer p, .pointer q, .bool true]) w') :
    ∀ (d k : Nat) (w : World) (S : Nat → Bool), k + d = 300 → Below w0.heap.size w0 w → Two w b p q n S → runS n S ((cl.take 300).drop k) = Sf → law03_plays.l0 K (d + 1) A m c p q k w := by
  have fin : ∀ (k : Nat) (w : World) (S : Nat → Bool), (cl.length ≤ k ∨ 300 ≤ k) → Below w0.heap.size w0 w → Two w b p q n S → runS n S ((cl.take 300).drop k) = Sf → K (.tuple #[.pointer p, .pointer q, .bool true]) w := fun k w S hk hb hT2 he => by
    rw [List.drop_of_length_le (by rw [List.length_take]; omega)] at he
    subst he
    exact hK w hb hT2
  intro d
  induction d with
  | zero =>
    intro k w S hk hb hT2 he
    rw [law03_plays.l0_succ]
    refine cond_dec (fun _ => ?_) (fun h => fin k w S (by omega) hb hT2 he)
    rw [decide_eq_false (by omega)]
    exact fin k w S (by omega) hb hT2 he
  | succ d ih =>
    intro k w S hk hb hT2 he
    rw [law03_plays.l0_succ]
    refine cond_dec (fun hlt => ?_) (fun h => fin k w S (by omega) hb hT2 he)
    rw [decide_eq_true (by omega)]
    have hlen : k < cl.length := by omega
    have hxk : cl[k]? = some cl[k] := List.getElem?_eq_getElem hlen
    have hlt2 : k < (cl.take 300).length := by rw [List.length_take]; omega
    rw [List.drop_eq_getElem_cons hlt2, List.getElem_take, runS] at he
    obtain ⟨a, rfl, c0, c1⟩ := scall_at (hx.below hb) hxk
    have hc := hok _ (List.getElem_mem hlen)
    generalize cl[k] = cv at c0 c1 hc he
    refine ⟨⟨by omega, by omega⟩, a, rfl, _, c1, ⟨by omega, by omega⟩, a, rfl, _, c0, ?_⟩
    obtain ⟨⟨F, G, h1, h2, hd⟩, hS⟩ := hT2
    have next : ∀ w' S', Below w0.heap.size w0 w' → Two w' b p q n S' → runS n S' ((cl.take 300).drop (k + 1)) = Sf → law03_plays.p7 (law03_plays.l0 K (d + 1)) K (some a) m c p q k true w' := fun w' S' g1 g2 g3 => by
      show law03_plays.l0 K (d + 1) (some a) m c p q (IntKind.wrap .i64 ((k : Int) + 1)) w'
      rw [cst k (by omega)]
      exact ih (k + 1) w' S' (by omega) g1 g2 g3
    have put : ∀ v, (stepS n S cv = putS S n cv.i v) → ∀ w1 w2, SetV w1 b p n (putS S n cv.i v) F → Kp F w w1 → RefV w2 b q n (putS S n cv.i v) G → Kp G w1 w2 → law03_plays.p7 (law03_plays.l0 K (d + 1)) K (some a) m c p q k (canPut S n cv.i v == canPut S n cv.i v) w2 := fun v e w1 w2 t1 k1 t2 k2 => by
      rw [beq_self_eq_true]
      have hb1 := hb.trans (h1.under hb0 hb.size k1)
      have h2' := h2.kp k1 (fun i hi hp => hd i hp hi)
      refine next w2 _ (hb1.trans (h2'.under hb0 hb1.size k2)) ⟨⟨F, G, t1.kp k2 (fun i hi hp => hd i hi hp), t2, hd⟩, putS_within hS⟩ ?_
      rw [← e]; exact he
    have stay : (cv.kind ≠ 1 ∧ cv.kind ≠ 2) → law03_plays.p7 (law03_plays.l0 K (d + 1)) K (some a) m c p q k true w := fun hn => by
      refine next w S hb ⟨⟨F, G, h1, h2, hd⟩, hS⟩ ?_
      have e : stepS n S cv = S := by unfold stepS; rw [if_neg hn.1, if_neg hn.2]
      rw [e] at he
      exact he
    refine cond_eq (fun e1 => ?_) (fun n1 => cond_eq (fun e2 => ?_) (fun n2 => cond_eq (fun e3 => ?_) (fun n3 => cond_eq (fun e4 => ?_) (fun n4 => cond_eq (fun e5 => ?_) (fun n5 => stay ⟨n1, n2⟩)))))
    · refine set_Set_Add_c h1 hS hc.2 fun w1 t1 k1 => ⟨_, rfl, ?_⟩
      refine ref03_Set_Put_c (h2.kp k1 (fun i hi hp => hd i hp hi)) fun w2 t2 k2 => ⟨_, rfl, ?_⟩
      exact put true (by unfold stepS; rw [if_pos e1]) w1 w2 t1 k1 t2 k2
    · refine set_Set_Del_c h1 hS hc.2 fun w1 t1 k1 => ⟨_, rfl, ?_⟩
      refine ref03_Set_Put_c (h2.kp k1 (fun i hi hp => hd i hp hi)) fun w2 t2 k2 => ⟨_, rfl, ?_⟩
      exact put false (by unfold stepS; rw [if_neg n1, if_pos e2]) w1 w2 t1 k1 t2 k2
    · refine set_Set_Has_c h1 hS ⟨_, rfl, ?_⟩
      have st := stay ⟨n1, n2⟩
      obtain ⟨t, g, rfl, r1, r2, r3, r4, r5, r6, rfl⟩ := h2
      refine cond_dec (fun hi0 => ⟨_, rfl, _, _, _, r4.cell' (j := 0) rfl, ?_⟩) (fun hi0 => ?_)
      · refine cond_dec (fun hin => ?_) (fun hin => ?_)
        · obtain ⟨i, hi⟩ := Int.eq_ofNat_of_zero_le hi0
          rw [hi] at hin ⊢
          obtain ⟨a', ea, hcl⟩ := (Cs.of_blk0 r5).at (bools_at (ins_at (S := S) (show i < n by omega)))
          cases ea
          rw [Int.toNat_natCast]
          refine ⟨_, rfl, _, _, _, r4.cell' (j := 0) rfl, ⟨by omega, by omega⟩, _, rfl, _, hcl, ?_⟩
          have e : hasV S (i : Int) = S i := by unfold hasV; rw [decide_eq_true (by omega), Int.toNat_natCast]; rfl
          rw [e, beq_self_eq_true]
          exact st
        · have e : hasV S cv.i = false := by unfold hasV; rw [hS cv.i.toNat (by omega)]; simp
          rw [e]
          exact st
      · have e : hasV S cv.i = false := by unfold hasV; rw [decide_eq_false hi0]; rfl
        rw [e]
        exact st
    · refine set_Set_First_c h1 (hT.below hb hT.lt) hc.2 ⟨_, rfl, ref03_Set_Next_c h2 ⟨_, rfl, ?_⟩⟩
      rw [beq_self_eq_true]
      exact stay ⟨n1, n2⟩
    · refine set_Set_Gap_c h1 (hT.below hb hT.lt) hc.2 ⟨_, rfl, ref03_Set_Next_c h2 ⟨_, rfl, ?_⟩⟩
      rw [beq_self_eq_true]
      exact stay ⟨n1, n2⟩
theorem law03_plays_c {w : World} {A : Option Addr} {m c : Nat} {n : Int} {cl : List SCall} {K : Value → World → Prop} (hT : Tab w) (hx : Cs w A (cl.flatMap SCall.cells)) (hm : m = cl.length) (hok : ∀ x ∈ cl, SCallOk x)
    (hK : ∀ w' p q, Below w.heap.size w w' → Two w' w.heap.size p q (clampN n) (runS (clampN n) noneS (cl.take 300)) → K (.tuple #[.pointer p, .pointer q, .bool true]) w') : CallsE Pg law03_plays.N #[.int .i64 n, .slice A m c] w K := by
  refine law03_plays.ok (set_New_c fun w1 p F h1 b1 => ⟨_, rfl, ref03_New_c fun w2 q G h2 b2 => ⟨_, rfl, 301, ?_⟩⟩)
  have b2' := b1.trans (b2.mono b1.size)
  exact plays_loop hT hx hm hok (Nat.le_refl _) (fun w' g1 g2 => hK w' p q g1 g2) 300 0 w2 noneS (by omega) b2' ⟨⟨F, G, h1.below b2, h2.base b1.size, fun i hi hg => by have := (h1.lt hi).2; have := (h2.lt hg).1; omega⟩, fun i _ => rfl⟩ (by rw [List.drop_zero])

end Go.Proofs.YtebnmecioifijaaDoor.C
