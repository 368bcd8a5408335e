/-
  Parts of the proofs of this seat: what the functions compute. No condition beyond what each theorem states.
-/
import Derived.Test.YtklmaeefnmcmlaaDoorF
import Derived.Test.YtklmaeefnmcmlaaDoorRK
import Derived.Test.YtklmaeefnmcmlaaDoorA
import Derived.Test.YtklmaeefnmcmlaaDoorB
import Derived.Test.YtklmaeefnmcmlaaDoorC
import Derived.Test.YtklmaeefnmcmlaaDoorD
import Derived.Test.YtklmaeefnmcmlaaDoorE
import Derived.Test.YtklmaeefnmcmlaaDoorG
import Derived.Test.YtklmaeefnmcmlaaDoorH
import Derived.Test.YtklmaeefnmcmlaaDoorI
import Derived.Test.YtklmaeefnmcmlaaDoorJ
import Derived.Test.YtklmaeefnmcmlaaDoorK
import Derived.Test.YtklmaeefnmcmlaaDoorL
import Derived.Test.YtklmaeefnmcmlaaDoorM
import Derived.Test.YtklmaeefnmcmlaaDoorO
import Derived.Test.YtklmaeefnmcmlaaDoorP
import Derived.Test.YtklmaeefnmcmlaaDoorQ
import Derived.Test.YtklmaeefnmcmlaaDoorS
set_option linter.unusedVariables false
set_option linter.unusedSimpArgs false
set_option maxRecDepth 100000
namespace Go.Proofs.YtklmaeefnmcmlaaDoor.C
open Go Go.RowKit Go.Proofs.YtklmaeefnmcmlaaDoor Go.Proofs.YtklmaeefnmcmlaaDoor.Sh Go.Proofs.YtklmaeefnmcmlaaDoor.F Go.Proofs.YtklmaeefnmcmlaaDoor.R

/-! ### SlideAgain -/
abbrev RdSpan := RdAgg [(1, RdInt .i64), (1, RdInt .i64), (1, RdInt .i64), (1, RdSlice 8 1 (RdInt .i64))]
theorem ints_rows : ∀ {rows : List (List Value)} {w : World}, (∀ r ∈ rows, r.length = 1 ∧ RdInt .i64 w r) → ∃ l : List Int, (∀ x ∈ l, I64 x) ∧ rows.flatten = nums .i64 l ∧ rows.length = l.length
  | [], w, _ => ⟨[], fun x hx => (by cases hx), rfl, rfl⟩
  | r :: rows, w, h => by
    obtain ⟨l, h1, h2, h3⟩ := ints_rows (rows := rows) (w := w) (fun r' hr' => h r' (List.mem_cons_of_mem _ hr'))
    obtain ⟨_, n, rfl, hn⟩ := h r (by simp)
    refine ⟨n :: l, fun x hx => ?_, by rw [List.flatten_cons, h2]; rfl, by simp [h3]⟩
    rcases List.mem_cons.1 hx with rfl | hx
    · exact wf_i64 hn
    · exact h1 x hx
theorem spr_of {w : World} {cs : List Value} (h : RdSpan w cs) : ∃ r : SpR, RowOk w r ∧ cs = r.cells := by
  obtain ⟨_, _, rfl, _, ⟨n0, rfl, h0⟩, _, _, rfl, _, ⟨n1, rfl, h1⟩, _, _, rfl, _, ⟨n2, rfl, h2⟩, _, _, rfl, _, ⟨A, m, c, rows, rfl, h3, h4, h5, h6, h7⟩, rfl⟩ := h
  obtain ⟨l, hi, he, hl⟩ := ints_rows h7
  exact ⟨⟨⟨n0, n1, n2, l⟩, A, m, c⟩, rowOk_mk (by rw [he] at h6; exact h6) (by omega) h4 (wf_i64 h0) (wf_i64 h1) (wf_i64 h2) hi, rfl⟩
section
variable {w0 w : World} {A B : Option Addr} {n c n' c' : Nat} {l l' : List SpR} {K : Value → World → Prop}
theorem all_loop (hx : Rws w0 A l) (hy : Rws w0 B l') (hn : n = l.length) (hn' : n' = l'.length) (hnb : n ≤ 1000000000000000) (he : l.map (·.d) = l'.map (·.d)) (hK : ∀ w', Below w0.heap.size w0 w' → K (.bool true) w') :
    ∀ (d i : Nat) (w : World), i + d = n → Below w0.heap.size w0 w → ref10_All.l0 K (d + 1) A n c B n' c' (n : Int) (i : Int) w := by
  have hll : l.length = l'.length := by have := congrArg List.length he; simpa using this
  intro d
  induction d with
  | zero =>
    intro i w hi bw
    rw [ref10_All.l0_succ]
    exact cond_dec (fun h => absurd h (by omega)) (fun _ => hK w bw)
  | succ d ih =>
    intro i w hi bw
    rw [ref10_All.l0_succ]
    refine cond_dec (fun _ => ?_) (fun h => absurd (by omega) h)
    have hi1 : l[i]? = some (l[i]'(by omega)) := List.getElem?_eq_getElem (by omega)
    have hi2 : l'[i]? = some (l'[i]'(by omega)) := List.getElem?_eq_getElem (by omega)
    have hm1 : l[i]'(by omega) ∈ l := List.getElem_mem _
    have hm2 : l'[i]'(by omega) ∈ l' := List.getElem_mem _
    generalize l[i]'(by omega) = r at hi1 hm1
    generalize l'[i]'(by omega) = r' at hi2 hm2
    have ed : r.d = r'.d := by
      have := congrArg (fun L => L[i]?) he
      simp only [List.getElem?_map, hi1, hi2, Option.map_some, Option.some.injEq] at this
      exact this
    obtain ⟨c1, c2, c3, c4, c5, c6, c7⟩ := (hx.2 r hm1).below bw
    obtain ⟨e1, e2, _⟩ := (hy.2 r' hm2).below bw
    obtain ⟨a, ea, x0, x1, x2, x3⟩ := rws_at (hx.below bw).1 hi1
    obtain ⟨a', ea', y0, y1, y2, y3⟩ := rws_at (hy.below bw).1 hi2
    rw [← ed] at e1 e2 y0 y1 y2
    unfold ref10_All.p4 ref10_All.p5
    rw [Int.toNat_natCast]
    refine ⟨fun H => H = w.heap, rfl, ⟨by omega, by omega⟩, a, ea, ⟨by omega, by omega⟩, a', ea', _, fun w' e => held x0 w' e, _, fun w' e => held x1 w' e, _, fun w' e => held x2 w' e, _, _, _, fun w' e => held x3 w' e, _, fun w' e => held y0 w' e, _, fun w' e => held y1 w' e, _, fun w' e => held y2 w' e, _, _, _, fun w' e => held y3 w' e, ?_⟩
    refine ref10_Same_c c1 e1 c2 e2 (by omega) fun w1 b1 => ⟨_, rfl, condP_f ?_⟩
    show ref10_All.l0 K (d + 1) _ _ _ _ _ _ _ (IntKind.wrap .i64 ((i : Int) + 1)) w1
    rw [cst i (by omega)]
    exact ih (i + 1) w1 (by omega) (bw.trans (b1.mono bw.size))
theorem ref10_All_c (hx : Rws w A l) (hy : Rws w B l') (hn : n = l.length) (hn' : n' = l'.length) (hnb : n ≤ 1000000000000000) (he : l.map (·.d) = l'.map (·.d)) (hK : ∀ w', Below w.heap.size w w' → K (.bool true) w') : CallsE Pg ref10_All.N #[.slice A n c, .slice B n' c'] w K := by
  have hll : l.length = l'.length := by have := congrArg List.length he; simpa using this
  exact ref10_All.ok (cond_ne (fun h => absurd (by omega) h) (fun _ => ⟨n + 1, all_loop hx hy hn hn' hnb he hK n 0 w (by omega) (Below.refl _ _)⟩))
end
theorem again_loop {w0 : World} {pages : Int} {A : Option Addr} {n c : Nat} {ms : List MvD} {O : Option Addr} {nO cO : Nat} {K : Value → World → Prop} (hx : Cs w0 A (ms.flatMap MvD.cells)) (hn : n = ms.length) (hnb : n ≤ 1000000000000000) (hok : ∀ m ∈ ms, m.to < m.fr ∧ 0 ≤ m.to ∧ 1 ≤ m.len)
    (hK : ∀ w', Below w0.heap.size w0 w' → law13_SlideAgain.p11 K pages O nO cO w') :
    ∀ (d i : Nat) (w : World), i + d = n → Below w0.heap.size w0 w → law13_SlideAgain.l0 K (d + 1) pages O nO cO A n c (n : Int) (i : Int) w := by
  intro d
  induction d with
  | zero =>
    intro i w hi bw
    rw [law13_SlideAgain.l0_succ]
    exact cond_dec (fun h => absurd h (by omega)) (fun _ => hK w bw)
  | succ d ih =>
    intro i w hi bw
    rw [law13_SlideAgain.l0_succ]
    refine cond_dec (fun _ => ?_) (fun h => absurd (by omega) h)
    have hi' : ms[i]? = some (ms[i]'(by omega)) := List.getElem?_eq_getElem (by omega)
    have hmem : ms[i]'(by omega) ∈ ms := List.getElem_mem _
    generalize ms[i]'(by omega) = m at hi' hmem
    obtain ⟨q1, q2, q3⟩ := hok m hmem
    obtain ⟨a, ea, c0, c1, c2⟩ := mvs_at (hx.below bw) hi'
    have hs := bw.size
    unfold law13_SlideAgain.p7
    rw [Int.toNat_natCast]
    refine ⟨⟨by omega, by omega⟩, a, ea, _, c0, _, c1, _, c2, new3 fun w1 hB1 b1 => ?_⟩
    have bw1 := bw.trans (b1.mono hs)
    generalize w.heap.size = g at hB1 ⊢
    refine ⟨_, hB1.cell' (j := 1) rfl, _, hB1.cell' (j := 0) rfl, cond_dec (fun h => absurd h (by omega)) (fun _ => ?_)⟩
    refine ⟨_, hB1.cell' (j := 1) rfl, cond_dec (fun h => absurd h (by omega)) (fun _ => ?_)⟩
    refine ⟨_, hB1.cell' (j := 2) rfl, cond_dec (fun h => absurd h (by omega)) (fun _ => ?_)⟩
    show law13_SlideAgain.l0 K (d + 1) _ _ _ _ _ _ _ _ (IntKind.wrap .i64 ((i : Int) + 1)) w1
    rw [cst i (by omega)]
    exact ih (i + 1) w1 (by omega) bw1
theorem planM_len {pages : Int} {D : List SpD} (h : rightP pages D = true) : (planM D).length ≤ 1000000 := by
  obtain ⟨h1, h2, h3, h4⟩ := rightP_ok h
  have hml := stM_len (N := D.length) (X := X0 D) 7 (Nat.le_refl _)
  have hml2 : 7 * (D.length * 16) ≤ 7 * (4096 * 16) := Nat.mul_le_mul (Nat.le_refl _) (Nat.mul_le_mul h3 (Nat.le_refl _))
  have hf : ∀ (X : Nat → SpC) (d i : Nat) (page : Int), (finM X i d page).length ≤ d := fun X d => by
    induction d with
    | zero => intro i page; exact Nat.le_refl _
    | succ d ih =>
      intro i page
      rw [finM]
      split
      · have := ih (i + 1) page; omega
      · have := ih (i + 1) (page + (X i).pgs)
        rw [List.length_append]
        split
        · simp only [List.length_cons, List.length_nil]; omega
        · simp only [List.length_nil]; omega
  have := hf (stX D.length (X0 D) 7) D.length 0 0
  unfold planM
  rw [List.length_append]
  omega
theorem law_SlideAgain (w : World) (hT : Tab w) (pages : Int) (hp : (Lit.int .i64 pages).wf = true) (A : Option Addr) (n c : Nat) (hz : RdSlice 48 4 RdSpan w [.slice A n c]) : CallsE Pg law13_SlideAgain.N #[.int .i64 pages, .slice A n c] w (fun v w' => v = .bool true ∧ Below w.heap.size w w') := by
  obtain ⟨l, hx, hn, hsb, hok⟩ := list_of (f := SpR.cells) (R := RowOk w) hz (fun cs h => spr_of h)
  have hR : Rws w A l := ⟨hx, hok⟩
  refine law13_SlideAgain.ok (law13_alive_c hT fun w1 b1 => ⟨_, rfl, condP_nt ?_⟩)
  refine cond_dec (fun _ => ⟨rfl, b1⟩) (fun _ => ?_)
  refine slide_Plan_c (hR.below b1) hn (by omega) (hT.below b1 hT.lt) (fun hf w2 b2 => ⟨_, _, _, _, _, _, _, rfl, ?_⟩) (fun hr O cO M cM outs w2 hO hL hM b2 => ⟨_, _, _, _, _, _, _, rfl, ?_⟩)
  · have b2' := b1.trans (b2.mono b1.size)
    refine cond_ne (fun _ => ?_) (fun h => absurd h (by decide))
    refine slide_Right_c (hR.below b2') hn (by omega) fun w3 b3 => ⟨_, rfl, ?_⟩
    rw [hf]
    exact ⟨rfl, b2'.trans (b3.mono b2'.size)⟩
  · have b2' := b1.trans (b2.mono b1.size)
    refine cond_ne (fun h => absurd rfl h) (fun _ => ?_)
    have hdown := plan_down hr
    have hml := planM_len hr
    obtain ⟨r1, _⟩ := plan_right hr
    obtain ⟨a1, a2⟩ := plan_again hr
    obtain ⟨_, _, r3, _⟩ := rightP_ok r1
    rw [← hL] at r1 r3 a1 a2
    rw [List.length_map] at r3
    generalize planM (l.map (·.d)) = PM at hM hml hdown ⊢
    refine ⟨PM.length + 1, again_loop hM rfl (by omega) hdown (fun w3 b3 => ?_) PM.length 0 w2 (by omega) (Below.refl _ _)⟩
    have b3' := b2'.trans (b3.mono b2'.size)
    have hO3 := hO.below b3
    refine slide_Plan_c hO3 rfl (by omega) (hT.below b3' hT.lt) (fun hf w4 b4 => by rw [r1] at hf; cases hf) (fun _ O4 cO4 M4 cM4 outs4 w4 hO4 hL4 hM4 b4 => ⟨_, _, _, _, _, _, _, rfl, ?_⟩)
    have b4' := b3'.trans (b4.mono b3'.size)
    rw [a2]
    clear a2
    refine cond_eq (fun _ => ?_) (fun h => absurd rfl h)
    refine cond_eq (fun _ => ?_) (fun h => absurd rfl h)
    have el : outs4.map (·.d) = outs.map (·.d) := hL4.trans a1
    have ell : outs4.length = outs.length := by have := congrArg List.length el; simpa using this
    refine ref10_All_c hO4 (hO3.below b4) rfl rfl (by omega) el fun w5 b5 => ⟨_, rfl, rfl, b4'.trans (b5.mono b4'.size)⟩

end Go.Proofs.YtklmaeefnmcmlaaDoor.C
