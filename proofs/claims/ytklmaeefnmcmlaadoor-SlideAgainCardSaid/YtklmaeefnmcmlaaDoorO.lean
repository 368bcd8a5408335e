/-
  Parts of the proofs of this seat: what the functions compute. No condition beyond what each theorem states.
-/
import Derived.Test.YtklmaeefnmcmlaaDoorF
import Derived.Test.YtklmaeefnmcmlaaDoorRK
import Derived.Test.YtklmaeefnmcmlaaDoorA
import Derived.Test.YtklmaeefnmcmlaaDoorB
import Derived.Test.YtklmaeefnmcmlaaDoorC
import Derived.Test.YtklmaeefnmcmlaaDoorD
import Derived.Test.YtklmaeefnmcmlaaDoorE
import Derived.Test.YtklmaeefnmcmlaaDoorG
import Derived.Test.YtklmaeefnmcmlaaDoorH
import Derived.Test.YtklmaeefnmcmlaaDoorI
import Derived.Test.YtklmaeefnmcmlaaDoorJ
import Derived.Test.YtklmaeefnmcmlaaDoorK
import Derived.Test.YtklmaeefnmcmlaaDoorL
import Derived.Test.YtklmaeefnmcmlaaDoorM
set_option linter.unusedVariables false
set_option linter.unusedSimpArgs false
set_option maxRecDepth 100000
namespace Go.Proofs.YtklmaeefnmcmlaaDoor.C
open Go Go.RowKit Go.Proofs.YtklmaeefnmcmlaaDoor Go.Proofs.YtklmaeefnmcmlaaDoor.Sh Go.Proofs.YtklmaeefnmcmlaaDoor.F Go.Proofs.YtklmaeefnmcmlaaDoor.R

/-! ### Where; the document's example -/
def D0 : List SpD := [⟨1, 1, 0, [2, 5]⟩, ⟨4, 1, 0, [0]⟩, ⟨6, 7, 300, [0]⟩]
theorem D0_right : rightP 9 D0 = true := by decide +kernel
theorem D0_L : planL D0 = [⟨0, 1, 0, [0, 1, 2]⟩, ⟨1, 7, 300, [0]⟩] := by decide +kernel
theorem D0_M : (planM D0).length = 5 ∧ (planM D0)[2]? = some ⟨1024, 304, 24⟩ := by decide +kernel
def whereV : Int → List MvD → Int
  | at', [] => at'
  | at', m :: ms => whereV (if m.fr ≤ at' ∧ at' - m.fr < m.len then at' + (m.to - m.fr) else at') ms
theorem D0_W : whereV 1024 (planM D0) = 48 := by decide +kernel
def MvOk (m : MvD) : Prop := 0 ≤ m.fr ∧ m.fr ≤ 1099511627776 ∧ 0 ≤ m.to ∧ m.to ≤ 1099511627776 ∧ 0 ≤ m.len ∧ m.len ≤ 1099511627776
theorem D0_Mok : ∀ m ∈ planM D0, MvOk m := by
  have : (planM D0).all (fun m => decide (0 ≤ m.fr ∧ m.fr ≤ 1099511627776 ∧ 0 ≤ m.to ∧ m.to ≤ 1099511627776 ∧ 0 ≤ m.len ∧ m.len ≤ 1099511627776)) = true := by decide +kernel
  intro m hm
  have := List.all_eq_true.1 this m hm
  unfold MvOk
  exact of_decide_eq_true this
theorem st3 {w : World} {g : Nat} {e : TypeId} {a0 a1 a2 v0 v1 v2 : Value} {Q : World → Prop} (h : Blk w g e [a0, a1, a2]) (hQ : ∀ w', Blk w' g e [v0, v1, v2] → Kp (· = g) w w' → Q w') :
    canStore w ⟨g, 0, none⟩ ∧ wlet (w.setCell ⟨g, 0, none⟩ v0) fun w1 => canStore w1 ⟨g, 1, none⟩ ∧ wlet (w1.setCell ⟨g, 1, none⟩ v1) fun w2 => canStore w2 ⟨g, 2, none⟩ ∧ wlet (w2.setCell ⟨g, 2, none⟩ v2) Q := by
  have e : ∀ k, (⟨g, k, none⟩ : Addr) = (⟨g, 0, none⟩ : Addr).add k := fun k => by rw [add_at, Nat.zero_add]
  rw [e 0, e 1, e 2]
  refine blk_set1 (k := 0) h (by simp) fun w1 h1 k1 s1 => ?_
  refine blk_set1 (k := 1) h1 (by simp) fun w2 h2 k2 s2 => ?_
  refine blk_set1 (k := 2) h2 (by simp) fun w3 h3 k3 s3 => ?_
  have t : ∀ {a b c : World}, Kp (· = g) a b → Kp (· = g) b c → Kp (· = g) a c := fun h k => h.trans k (fun _ _ h => h) (fun _ _ h => h)
  exact hQ w3 h3 (t (t k1 k2) k3)
/-- A new copy of three cells. -/
theorem new3 {w : World} {e : TypeId} {a0 a1 a2 v0 v1 v2 : Value} {Q : World → Prop} (hQ : ∀ w', Blk w' w.heap.size e [v0, v1, v2] → Below w.heap.size w w' → Q w') :
    wlet (w.alloc (.cells #[a0, a1, a2] e)) fun w1 => canStore w1 ⟨w.heap.size, 0, none⟩ ∧ wlet (w1.setCell ⟨w.heap.size, 0, none⟩ v0) fun w2 => canStore w2 ⟨w.heap.size, 1, none⟩ ∧ wlet (w2.setCell ⟨w.heap.size, 1, none⟩ v1) fun w3 => canStore w3 ⟨w.heap.size, 2, none⟩ ∧ wlet (w3.setCell ⟨w.heap.size, 2, none⟩ v2) Q := by
  refine wlet_intro fun w1 e1 => ?_
  have b1 : Below w.heap.size w w1 := by rw [e1]; exact (Below.refl _ _).alloc (Nat.le_refl _) _
  have hB1 : Blk w1 w.heap.size e [a0, a1, a2] := by rw [e1]; exact Blk.new w _ _
  clear e1
  exact st3 hB1 fun w2 hB2 k2 => hQ w2 hB2 (b1.trans (k2.below b1.size fun i hi e => by omega))
theorem mvs_at {w : World} {A : Option Addr} {l : List MvD} (h : Cs w A (l.flatMap MvD.cells)) {k : Nat} {r : MvD} (hk : l[k]? = some r) :
    ∃ a, A = some a ∧ w.cell? (a.add (k * 3)) = some (.int .i64 r.fr) ∧ w.cell? ((a.add (k * 3)).add 1) = some (.int .i64 r.to) ∧ w.cell? ((a.add (k * 3)).add 2) = some (.int .i64 r.len) := by
  obtain ⟨a, e, hc⟩ := h.row MvD.cells_len hk (by decide)
  exact ⟨a, e, hc 0 _ rfl, hc 1 _ rfl, hc 2 _ rfl⟩
theorem where_step {at' : Int} {m : MvD} (hm : MvOk m) (h0 : 0 ≤ at' ∧ at' ≤ 2199023255552) : 0 ≤ (if m.fr ≤ at' ∧ at' - m.fr < m.len then at' + (m.to - m.fr) else at') ∧ (if m.fr ≤ at' ∧ at' - m.fr < m.len then at' + (m.to - m.fr) else at') ≤ 2199023255552 := by
  obtain ⟨h1, h2, h3, h4, h5, h6⟩ := hm
  split <;> omega
section
variable {w0 w : World} {A : Option Addr} {n c : Nat} {ms : List MvD} {K : Value → World → Prop}
theorem where_loop (hx : Cs w0 A (ms.flatMap MvD.cells)) (hn : n = ms.length) (hnb : n ≤ 1000000000000000) (hok : ∀ m ∈ ms, MvOk m) {tot : Int} (hK : ∀ w', Below w0.heap.size w0 w' → K (.int .i64 tot) w') :
    ∀ (d i : Nat) (at' : Int) (w : World), i + d = n → 0 ≤ at' ∧ at' ≤ 2199023255552 → whereV at' (ms.drop i) = tot → Below w0.heap.size w0 w → slide_Where.l0 K (d + 1) at' A n c (n : Int) (i : Int) w := by
  intro d
  induction d with
  | zero =>
    intro i at' w hi h0 ht bw
    rw [slide_Where.l0_succ]
    refine cond_dec (fun h => absurd h (by omega)) (fun _ => ?_)
    rw [List.drop_of_length_le (by omega), whereV] at ht
    subst ht
    exact hK w bw
  | succ d ih =>
    intro i at' w hi h0 ht bw
    rw [slide_Where.l0_succ]
    refine cond_dec (fun _ => ?_) (fun h => absurd (by omega) h)
    have hi' : ms[i]? = some (ms[i]'(by omega)) := List.getElem?_eq_getElem (by omega)
    have hmem : ms[i]'(by omega) ∈ ms := List.getElem_mem _
    have hdrop : ms.drop i = (ms[i]'(by omega)) :: ms.drop (i + 1) := List.drop_eq_getElem_cons (by omega)
    generalize ms[i]'(by omega) = m at hi' hmem hdrop
    rw [hdrop, whereV] at ht
    have hstep := where_step (hok m hmem) h0
    obtain ⟨q1, q2, q3, q4, q5, q6⟩ := hok m hmem
    obtain ⟨a, ea, c0, c1, c2⟩ := mvs_at (hx.below bw) hi'
    have hs := bw.size
    unfold slide_Where.p3
    rw [Int.toNat_natCast]
    refine ⟨⟨by omega, by omega⟩, a, ea, _, c0, _, c1, _, c2, new3 fun w1 hB1 b1 => ?_⟩
    have bw1 := bw.trans (b1.mono hs)
    generalize w.heap.size = g at hB1 ⊢
    have nxt : ∀ v : Int, v = (if m.fr ≤ at' ∧ at' - m.fr < m.len then at' + (m.to - m.fr) else at') → slide_Where.p6 (slide_Where.l0 K (d + 1)) K v A n c (n : Int) (i : Int) w1 := fun v hv => by
      show slide_Where.l0 K (d + 1) _ _ _ _ _ (IntKind.wrap .i64 ((i : Int) + 1)) w1
      rw [cst i (by omega)]
      exact ih (i + 1) v w1 (by omega) (by rw [hv]; exact hstep) (by rw [hv]; exact ht) bw1
    refine ⟨_, hB1.cell' (j := 0) rfl, cond_dec (fun hle => ?_) (fun hle => ?_)⟩
    · refine ⟨_, hB1.cell' (j := 0) rfl, _, hB1.cell' (j := 2) rfl, ?_⟩
      rw [wrap64_in (x := at' - m.fr) (by omega) (by omega)]
      refine cond_dec (fun hlt => ⟨_, hB1.cell' (j := 1) rfl, _, hB1.cell' (j := 0) rfl, ?_⟩) (fun hlt => ?_)
      · rw [wrap64_in (x := m.to - m.fr) (by omega) (by omega), wrap64_in (by omega) (by omega)]
        exact nxt _ (by rw [if_pos ⟨hle, hlt⟩])
      · exact nxt _ (by rw [if_neg (fun h => hlt h.2)])
    · exact nxt _ (by rw [if_neg (fun h => hle h.1)])
theorem slide_Where_c {at' : Int} (hx : Cs w A (ms.flatMap MvD.cells)) (hn : n = ms.length) (hnb : n ≤ 1000000000000000) (hok : ∀ m ∈ ms, MvOk m) (h0 : 0 ≤ at' ∧ at' ≤ 2199023255552) (hK : ∀ w', Below w.heap.size w w' → K (.int .i64 (whereV at' ms)) w') : CallsE Pg slide_Where.N #[.int .i64 at', .slice A n c] w K :=
  slide_Where.ok ⟨n + 1, where_loop hx hn hnb hok hK n 0 at' w (by omega) h0 rfl (Below.refl _ _)⟩
theorem rwhere_loop (hx : Cs w0 A (ms.flatMap MvD.cells)) (hn : n = ms.length) (hnb : n ≤ 1000000000000000) (hok : ∀ m ∈ ms, MvOk m) {tot : Int} (hK : ∀ w', Below w0.heap.size w0 w' → K (.int .i64 tot) w') :
    ∀ (d i : Nat) (at' : Int) (w : World), i + d = n → 0 ≤ at' ∧ at' ≤ 2199023255552 → whereV at' (ms.drop i) = tot → Below w0.heap.size w0 w → ref13_Where.l0 K (d + 1) at' A n c (n : Int) (i : Int) w := by
  intro d
  induction d with
  | zero =>
    intro i at' w hi h0 ht bw
    rw [ref13_Where.l0_succ]
    refine cond_dec (fun h => absurd h (by omega)) (fun _ => ?_)
    rw [List.drop_of_length_le (by omega), whereV] at ht
    subst ht
    exact hK w bw
  | succ d ih =>
    intro i at' w hi h0 ht bw
    rw [ref13_Where.l0_succ]
    refine cond_dec (fun _ => ?_) (fun h => absurd (by omega) h)
    have hi' : ms[i]? = some (ms[i]'(by omega)) := List.getElem?_eq_getElem (by omega)
    have hmem : ms[i]'(by omega) ∈ ms := List.getElem_mem _
    have hdrop : ms.drop i = (ms[i]'(by omega)) :: ms.drop (i + 1) := List.drop_eq_getElem_cons (by omega)
    generalize ms[i]'(by omega) = m at hi' hmem hdrop
    rw [hdrop, whereV] at ht
    have hstep := where_step (hok m hmem) h0
    obtain ⟨q1, q2, q3, q4, q5, q6⟩ := hok m hmem
    obtain ⟨a, ea, c0, c1, c2⟩ := mvs_at (hx.below bw) hi'
    have hs := bw.size
    unfold ref13_Where.p3
    rw [Int.toNat_natCast]
    refine ⟨⟨by omega, by omega⟩, a, ea, _, c0, _, c1, _, c2, new3 fun w1 hB1 b1 => ?_⟩
    have bw1 := bw.trans (b1.mono hs)
    generalize w.heap.size = g at hB1 ⊢
    have nxt : ∀ v : Int, v = (if m.fr ≤ at' ∧ at' - m.fr < m.len then at' + (m.to - m.fr) else at') → ref13_Where.p6 (ref13_Where.l0 K (d + 1)) K v A n c (n : Int) (i : Int) w1 := fun v hv => by
      show ref13_Where.l0 K (d + 1) _ _ _ _ _ (IntKind.wrap .i64 ((i : Int) + 1)) w1
      rw [cst i (by omega)]
      exact ih (i + 1) v w1 (by omega) (by rw [hv]; exact hstep) (by rw [hv]; exact ht) bw1
    refine ⟨_, hB1.cell' (j := 2) rfl, cond_dec (fun hpos => ?_) (fun hpos => ?_)⟩
    · refine ⟨_, hB1.cell' (j := 0) rfl, cond_dec (fun hle => ?_) (fun hle => ?_)⟩
      · refine ⟨_, hB1.cell' (j := 0) rfl, _, hB1.cell' (j := 2) rfl, ?_⟩
        rw [wrapu64_in (x := at') (by omega) (by omega), wrapu64_in (x := m.fr) (by omega) (by omega), wrapu64_in (x := m.len) (by omega) (by omega), wrapu64_in (x := at' - m.fr) (by omega) (by omega)]
        refine cond_dec (fun hlt => ⟨_, hB1.cell' (j := 1) rfl, _, hB1.cell' (j := 0) rfl, ?_⟩) (fun hlt => ?_)
        · rw [wrap64_in (x := m.to - m.fr) (by omega) (by omega), wrap64_in (by omega) (by omega)]
          exact nxt _ (by rw [if_pos ⟨hle, hlt⟩])
        · exact nxt _ (by rw [if_neg (fun h => hlt h.2)])
      · exact nxt _ (by rw [if_neg (fun h => hle h.1)])
    · exact nxt _ (by rw [if_neg (fun h => by omega)])
theorem ref13_Where_c {at' : Int} (hx : Cs w A (ms.flatMap MvD.cells)) (hn : n = ms.length) (hnb : n ≤ 1000000000000000) (hok : ∀ m ∈ ms, MvOk m) (h0 : 0 ≤ at' ∧ at' ≤ 2199023255552) (hK : ∀ w', Below w.heap.size w w' → K (.int .i64 (whereV at' ms)) w') : CallsE Pg ref13_Where.N #[.int .i64 at', .slice A n c] w K :=
  ref13_Where.ok ⟨n + 1, rwhere_loop hx hn hnb hok hK n 0 at' w (by omega) h0 rfl (Below.refl _ _)⟩
end

end Go.Proofs.YtklmaeefnmcmlaaDoor.C
