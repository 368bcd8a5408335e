/-
  Parts of the proofs of this seat: what the functions compute. No condition beyond what each theorem states.
-/
import Derived.Test.YtklmaeefnmcmlaaDoorF
import Derived.Test.YtklmaeefnmcmlaaDoorRK
import Derived.Test.YtklmaeefnmcmlaaDoorA
import Derived.Test.YtklmaeefnmcmlaaDoorB
import Derived.Test.YtklmaeefnmcmlaaDoorC
import Derived.Test.YtklmaeefnmcmlaaDoorD
import Derived.Test.YtklmaeefnmcmlaaDoorE
import Derived.Test.YtklmaeefnmcmlaaDoorG
import Derived.Test.YtklmaeefnmcmlaaDoorH
import Derived.Test.YtklmaeefnmcmlaaDoorI
import Derived.Test.YtklmaeefnmcmlaaDoorJ
import Derived.Test.YtklmaeefnmcmlaaDoorK
import Derived.Test.YtklmaeefnmcmlaaDoorL
import Derived.Test.YtklmaeefnmcmlaaDoorM
import Derived.Test.YtklmaeefnmcmlaaDoorO
set_option linter.unusedVariables false
set_option linter.unusedSimpArgs false
set_option maxRecDepth 100000
namespace Go.Proofs.YtklmaeefnmcmlaaDoor.C
open Go Go.RowKit Go.Proofs.YtklmaeefnmcmlaaDoor Go.Proofs.YtklmaeefnmcmlaaDoor.Sh Go.Proofs.YtklmaeefnmcmlaaDoor.F Go.Proofs.YtklmaeefnmcmlaaDoor.R

/-! ### alive -/
def MvD.same (a b : MvD) : Bool := a.fr == b.fr && (a.to == b.to && (a.len == b.len && true))
theorem MvD.same_iff {a b : MvD} : a.same b = true ↔ a = b := by
  cases a; cases b
  simp [MvD.same]
theorem move_eq (a b : MvD) : aggEq Pg .eql Ty.api_Move (.agg ⟨a.cells⟩) (.agg ⟨b.cells⟩) (.bool (a.same b)) ∧ aggEq Pg .neq Ty.api_Move (.agg ⟨a.cells⟩) (.agg ⟨b.cells⟩) (.bool (!a.same b)) := by
  have hi : Pg.underlying Ty.int = some (.int .i64) := by kernel_rfl
  have hu : Pg.underlying Ty.api_Move = some (.struct #[⟨"From", Ty.int, 0, false, "", "", 0⟩, ⟨"To", Ty.int, 1, false, "", "", 8⟩, ⟨"Len", Ty.int, 2, false, "", "", 16⟩]) := by kernel_rfl
  exact aggEq_struct hu (by kernel_rfl) (by kernel_rfl) (.cons rfl rfl rfl rfl (.int hi) (.cons rfl rfl rfl rfl (.int hi) (.cons rfl rfl rfl rfl (.int hi) (.nil _))))
theorem ints1 {x : Int} (h : I64 x) : ∀ y ∈ [x], I64 y := fun y hy => by rw [List.mem_singleton.1 hy]; exact h
theorem two_of {α : Type} {l : List α} (h : l.length = 2) : ∃ a b, l = [a, b] := by
  match l, h with
  | [a, b], _ => exact ⟨a, b, rfl⟩
theorem rowOk_mk {w : World} {A : Option Addr} {pg cl size : Int} {live : List Int} {m c : Nat} (hx : Cs w A (nums .i64 live)) (hm : m = live.length) (h8 : m * 8 ≤ 140737488351232) (h1 : I64 pg) (h2 : I64 cl) (h3 : I64 size) (hl : ∀ x ∈ live, I64 x) : RowOk w ⟨⟨pg, cl, size, live⟩, A, m, c⟩ := ⟨hx, hm, h8, h1, h2, h3, hl⟩
theorem law13_alive_c {w : World} {K : Value → World → Prop} (hT : Tab w) (h : ∀ w', Below w.heap.size w w' → K (.bool true) w') : CallsE Pg law13_alive.N #[] w K := by
  refine law13_alive.ok (wlet_intro fun w1 e1 => ?_)
  have b1 : Below w.heap.size w w1 := by rw [e1]; exact (Below.refl _ _).alloc (Nat.le_refl _) _
  have hB1 : Blk w1 w.heap.size Ty.int (nums .i64 [2, 5]) := by rw [e1]; exact Blk.new w _ _
  clear e1
  refine wlet_intro fun w2 e2 => ?_
  have b2 : Below w1.heap.size w1 w2 := by rw [e2]; exact (Below.refl _ _).alloc (Nat.le_refl _) _
  have hB2 : Blk w2 w1.heap.size Ty.int (nums .i64 [0]) := by rw [e2]; exact Blk.new w1 _ _
  clear e2
  refine wlet_intro fun w3 e3 => ?_
  have b3 : Below w2.heap.size w2 w3 := by rw [e3]; exact (Below.refl _ _).alloc (Nat.le_refl _) _
  have hB3 : Blk w3 w2.heap.size Ty.int (nums .i64 [0]) := by rw [e3]; exact Blk.new w2 _ _
  clear e3
  refine wlet_intro fun w4 e4 => ?_
  have b4 : Below w3.heap.size w3 w4 := by rw [e4]; exact (Below.refl _ _).alloc (Nat.le_refl _) _
  have hB4 : Blk w4 w3.heap.size Ty.api_Span (([⟨⟨1, 1, 0, [2, 5]⟩, some ⟨w.heap.size, 0, none⟩, 2, 2⟩, ⟨⟨4, 1, 0, [0]⟩, some ⟨w1.heap.size, 0, none⟩, 1, 1⟩, ⟨⟨6, 7, 300, [0]⟩, some ⟨w2.heap.size, 0, none⟩, 1, 1⟩] : List SpR).flatMap SpR.cells) := by rw [e4]; exact Blk.new w3 _ _
  clear e4
  have b2' := b1.trans (b2.mono b1.size)
  have b3' := b2'.trans (b3.mono b2'.size)
  have b4' := b3'.trans (b4.mono b3'.size)
  have x1 := ((Cs.of_blk0 hB1).below b2).below b3 |>.below b4
  have x2 := (Cs.of_blk0 hB2).below b3 |>.below b4
  have x3 := (Cs.of_blk0 hB3).below b4
  have hi25 : ∀ y ∈ ([2, 5] : List Int), I64 y := fun y hy => by
    simp only [List.mem_cons, List.mem_nil_iff, or_false] at hy
    rcases hy with rfl | rfl <;> exact ⟨by decide, by decide⟩
  have hi0 : ∀ y ∈ ([0] : List Int), I64 y := ints1 ⟨by decide, by decide⟩
  have hR : Rws w4 (some ⟨w3.heap.size, 0, none⟩) [⟨⟨1, 1, 0, [2, 5]⟩, some ⟨w.heap.size, 0, none⟩, 2, 2⟩, ⟨⟨4, 1, 0, [0]⟩, some ⟨w1.heap.size, 0, none⟩, 1, 1⟩, ⟨⟨6, 7, 300, [0]⟩, some ⟨w2.heap.size, 0, none⟩, 1, 1⟩] := by
    refine ⟨Cs.of_blk0 hB4, fun r hr => ?_⟩
    simp only [List.mem_cons, List.mem_nil_iff, or_false] at hr
    rcases hr with rfl | rfl | rfl
    · exact rowOk_mk x1 rfl (by decide) ⟨by decide, by decide⟩ ⟨by decide, by decide⟩ ⟨by decide, by decide⟩ hi25
    · exact rowOk_mk x2 rfl (by decide) ⟨by decide, by decide⟩ ⟨by decide, by decide⟩ ⟨by decide, by decide⟩ hi0
    · exact rowOk_mk x3 rfl (by decide) ⟨by decide, by decide⟩ ⟨by decide, by decide⟩ ⟨by decide, by decide⟩ hi0
  have eD : ([⟨⟨1, 1, 0, [2, 5]⟩, some ⟨w.heap.size, 0, none⟩, 2, 2⟩, ⟨⟨4, 1, 0, [0]⟩, some ⟨w1.heap.size, 0, none⟩, 1, 1⟩, ⟨⟨6, 7, 300, [0]⟩, some ⟨w2.heap.size, 0, none⟩, 1, 1⟩] : List SpR).map (·.d) = D0 := rfl
  have el : ([⟨⟨1, 1, 0, [2, 5]⟩, some ⟨w.heap.size, 0, none⟩, 2, 2⟩, ⟨⟨4, 1, 0, [0]⟩, some ⟨w1.heap.size, 0, none⟩, 1, 1⟩, ⟨⟨6, 7, 300, [0]⟩, some ⟨w2.heap.size, 0, none⟩, 1, 1⟩] : List SpR).length = 3 := rfl
  generalize ([⟨⟨1, 1, 0, [2, 5]⟩, some ⟨w.heap.size, 0, none⟩, 2, 2⟩, ⟨⟨4, 1, 0, [0]⟩, some ⟨w1.heap.size, 0, none⟩, 1, 1⟩, ⟨⟨6, 7, 300, [0]⟩, some ⟨w2.heap.size, 0, none⟩, 1, 1⟩] : List SpR) = lst at hR eD el
  refine slide_Plan_c hR el.symm (by decide) (hT.below b4' hT.lt) (fun hf => ?_) (fun _ O cO M cM outs w5 hO hL hM b5 => ⟨_, _, _, _, _, _, _, rfl, ?_⟩)
  · rw [eD, D0_right] at hf; cases hf
  rw [eD] at hL hM ⊢
  rw [D0_L] at hL
  have b5' := b4'.trans (b5.mono b4'.size)
  obtain ⟨m1, m2⟩ := D0_M
  have hMok := D0_Mok
  have hMW := D0_W
  generalize planM D0 = PM at m1 m2 hM hMok hMW ⊢
  obtain ⟨r0, r1, rfl⟩ := two_of (l := outs) (by have := congrArg List.length hL; simpa using this)
  simp only [List.map_cons, List.map_nil, List.cons.injEq, and_true] at hL
  obtain ⟨l0, l1⟩ := hL
  refine cond_eq (fun _ => ?_) (fun h => absurd rfl h)
  refine cond_eq (fun _ => ?_) (fun h => absurd rfl h)
  obtain ⟨a, ea, _, _, _, c3⟩ := rws_at hO.1 (k := 0) rfl
  obtain ⟨a', ea', d0, _, _, _⟩ := rws_at hO.1 (k := 1) rfl
  have hr0 := (hO.2 r0 (by simp)).2.1
  rw [l0] at hr0
  refine ⟨⟨by decide, by show (0 : Int) < ((2 : Nat) : Int); decide⟩, a, ea, _, _, _, c3, cond_eq (fun _ => ?_) (fun h => absurd (by rw [hr0]; rfl) h)⟩
  rw [l1] at d0
  refine ⟨⟨by decide, by show (1 : Int) < ((2 : Nat) : Int); decide⟩, a', ea', _, d0, cond_eq (fun _ => ?_) (fun h => absurd rfl h)⟩
  refine cond_eq (fun _ => ?_) (fun h => absurd (by rw [m1]; rfl) h)
  obtain ⟨a'', ea'', f0, f1, f2⟩ := mvs_at hM m2
  refine ⟨⟨by decide, by rw [m1]; decide⟩, a'', ea'', _, f0, _, f1, _, f2, _, (move_eq ⟨1024, 304, 24⟩ ⟨1024, 304, 24⟩).1, condP_t ?_⟩
  refine slide_Where_c (ms := PM) hM rfl (by rw [m1]; decide) hMok ⟨by decide, by decide⟩ fun w6 b6 => ⟨_, rfl, ?_⟩
  rw [hMW]
  exact h w6 (b5'.trans (b6.mono b5'.size))
/-! ### SlideWhere -/
abbrev RdMv := RdAgg [(1, RdInt .i64), (1, RdInt .i64), (1, RdInt .i64)]
theorem mv_of {w : World} {cs : List Value} (h : RdMv w cs) : ∃ m : MvD, (I64 m.fr ∧ I64 m.to ∧ I64 m.len) ∧ cs = m.cells := by
  obtain ⟨_, _, rfl, _, ⟨n0, rfl, h0⟩, _, _, rfl, _, ⟨n1, rfl, h1⟩, _, _, rfl, _, ⟨n2, rfl, h2⟩, rfl⟩ := h
  exact ⟨⟨n0, n1, n2⟩, ⟨wf_i64 h0, wf_i64 h1, wf_i64 h2⟩, rfl⟩
theorem swhere_loop {w0 : World} {at' : Int} {A : Option Addr} {n c : Nat} {ms : List MvD} {K : Value → World → Prop} (hx : Cs w0 A (ms.flatMap MvD.cells)) (hn : n = ms.length) (hnb : n ≤ 1000000000000000)
    (hT : ∀ w', Below w0.heap.size w0 w' → K (.bool true) w') (hK : ∀ w', (∀ m ∈ ms, MvOk m) → Below w0.heap.size w0 w' → law13_SlideWhere.p8 K at' A n c w') :
    ∀ (d i : Nat) (w : World), i + d = n → (∀ m ∈ ms.take i, MvOk m) → Below w0.heap.size w0 w → law13_SlideWhere.l0 K (d + 1) at' A n c A n c (n : Int) (i : Int) w := by
  intro d
  induction d with
  | zero =>
    intro i w hi hok bw
    rw [law13_SlideWhere.l0_succ]
    refine cond_dec (fun h => absurd h (by omega)) (fun _ => ?_)
    rw [List.take_of_length_le (by omega)] at hok
    exact hK w hok bw
  | succ d ih =>
    intro i w hi hok bw
    rw [law13_SlideWhere.l0_succ]
    refine cond_dec (fun _ => ?_) (fun h => absurd (by omega) h)
    have hi' : ms[i]? = some (ms[i]'(by omega)) := List.getElem?_eq_getElem (by omega)
    generalize ms[i]'(by omega) = m at hi'
    obtain ⟨a, ea, c0, c1, c2⟩ := mvs_at (hx.below bw) hi'
    have hs := bw.size
    unfold law13_SlideWhere.p4
    rw [Int.toNat_natCast]
    refine ⟨⟨by omega, by omega⟩, a, ea, _, c0, _, c1, _, c2, new3 fun w1 hB1 b1 => ?_⟩
    have bw1 := bw.trans (b1.mono hs)
    generalize w.heap.size = g at hB1 ⊢
    refine ⟨_, hB1.cell' (j := 0) rfl, cond_dec (fun _ => hT w1 bw1) (fun q1 => ?_)⟩
    refine ⟨_, hB1.cell' (j := 1) rfl, cond_dec (fun _ => hT w1 bw1) (fun q2 => ?_)⟩
    refine ⟨_, hB1.cell' (j := 2) rfl, cond_dec (fun _ => hT w1 bw1) (fun q3 => ?_)⟩
    refine ⟨_, hB1.cell' (j := 0) rfl, cond_dec (fun _ => hT w1 bw1) (fun q4 => ?_)⟩
    refine ⟨_, hB1.cell' (j := 1) rfl, cond_dec (fun _ => hT w1 bw1) (fun q5 => ?_)⟩
    refine ⟨_, hB1.cell' (j := 2) rfl, cond_dec (fun _ => hT w1 bw1) (fun q6 => ?_)⟩
    show law13_SlideWhere.l0 K (d + 1) _ _ _ _ _ _ _ _ (IntKind.wrap .i64 ((i : Int) + 1)) w1
    rw [cst i (by omega)]
    refine ih (i + 1) w1 (by omega) (fun m' hm' => ?_) bw1
    rw [take_snoc hi'] at hm'
    rcases List.mem_append.1 hm' with h | h
    · exact hok m' h
    · obtain rfl := List.mem_singleton.1 h
      exact ⟨by omega, by omega, by omega, by omega, by omega, by omega⟩
theorem law_SlideWhere (w : World) (hT : Tab w) (at' : Int) (hat : (Lit.int .i64 at').wf = true) (A : Option Addr) (n c : Nat) (hz : RdSlice 24 3 RdMv w [.slice A n c]) : CallsE Pg law13_SlideWhere.N #[.int .i64 at', .slice A n c] w (fun v w' => v = .bool true ∧ Below w.heap.size w w') := by
  obtain ⟨ms, hx, hm, hsb, _⟩ := list_of (f := MvD.cells) hz (fun cs h => mv_of h)
  refine law13_SlideWhere.ok (law13_alive_c hT fun w1 b1 => ⟨_, rfl, condP_nt ⟨n + 1, ?_⟩⟩)
  refine swhere_loop (hx.below b1) hm (by omega) (fun w' b' => ⟨rfl, b1.trans (b'.mono b1.size)⟩) (fun w2 hok b2 => ?_) n 0 w1 (by omega) (fun m hm => by simp at hm) (Below.refl _ _)
  have b2' := b1.trans (b2.mono b1.size)
  refine cond_dec (fun _ => ⟨rfl, b2'⟩) (fun q1 => ?_)
  refine cond_dec (fun _ => ⟨rfl, b2'⟩) (fun q2 => ?_)
  refine cond_dec (fun _ => ⟨rfl, b2'⟩) (fun q3 => ?_)
  refine slide_Where_c (hx.below b2') hm (by omega) hok ⟨by omega, by omega⟩ fun w3 b3 => ⟨_, rfl, ?_⟩
  have b3' := b2'.trans (b3.mono b2'.size)
  refine ref13_Where_c (hx.below b3') hm (by omega) hok ⟨by omega, by omega⟩ fun w4 b4 => ⟨_, rfl, ?_⟩
  exact ⟨by rw [beq_self_eq_true], b3'.trans (b4.mono b3'.size)⟩

end Go.Proofs.YtklmaeefnmcmlaaDoor.C
