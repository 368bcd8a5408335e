/-
  Parts of the proofs of this seat: what the functions compute. No condition beyond what each theorem states.
-/
import Derived.Test.YtklmaeefnmcmlaaDoorF
import Derived.Test.YtklmaeefnmcmlaaDoorRK
import Derived.Test.YtklmaeefnmcmlaaDoorA
import Derived.Test.YtklmaeefnmcmlaaDoorB
import Derived.Test.YtklmaeefnmcmlaaDoorC
import Derived.Test.YtklmaeefnmcmlaaDoorD
import Derived.Test.YtklmaeefnmcmlaaDoorE
import Derived.Test.YtklmaeefnmcmlaaDoorG
import Derived.Test.YtklmaeefnmcmlaaDoorH
import Derived.Test.YtklmaeefnmcmlaaDoorI
import Derived.Test.YtklmaeefnmcmlaaDoorJ
set_option linter.unusedVariables false
set_option linter.unusedSimpArgs false
set_option maxRecDepth 100000
namespace Go.Proofs.YtklmaeefnmcmlaaDoor.C
open Go Go.RowKit Go.Proofs.YtklmaeefnmcmlaaDoor Go.Proofs.YtklmaeefnmcmlaaDoor.Sh Go.Proofs.YtklmaeefnmcmlaaDoor.F Go.Proofs.YtklmaeefnmcmlaaDoor.R

/-! ### spans as data; open -/
structure SpR where
  d : SpD
  A : Option Addr
  m : Nat
  c : Nat
def SpR.cells (r : SpR) : List Value := [.int .i64 r.d.pg, .int .i64 r.d.cl, .int .i64 r.d.size, .slice r.A r.m r.c]
theorem SpR.cells_len (r : SpR) : r.cells.length = 4 := rfl
def RowOk (w : World) (r : SpR) : Prop := Cs w r.A (nums .i64 r.d.live) ∧ r.m = r.d.live.length ∧ r.m * 8 ≤ 140737488351232 ∧ I64 r.d.pg ∧ I64 r.d.cl ∧ I64 r.d.size ∧ ∀ x ∈ r.d.live, I64 x
def Rws (w : World) (A : Option Addr) (l : List SpR) : Prop := Cs w A (l.flatMap SpR.cells) ∧ ∀ r ∈ l, RowOk w r
theorem RowOk.below {w w' : World} {r : SpR} (h : RowOk w r) (k : Below w.heap.size w w') : RowOk w' r := ⟨h.1.below k, h.2⟩
theorem Rws.below {w w' : World} {A : Option Addr} {l : List SpR} (h : Rws w A l) (k : Below w.heap.size w w') : Rws w' A l := ⟨h.1.below k, fun r hr => (h.2 r hr).below k⟩
theorem rws_at {w : World} {A : Option Addr} {l : List SpR} (h : Cs w A (l.flatMap SpR.cells)) {k : Nat} {r : SpR} (hk : l[k]? = some r) :
    ∃ a, A = some a ∧ w.cell? (a.add (k * 4)) = some (.int .i64 r.d.pg) ∧ w.cell? ((a.add (k * 4)).add 1) = some (.int .i64 r.d.cl) ∧ w.cell? ((a.add (k * 4)).add 2) = some (.int .i64 r.d.size) ∧ w.cell? ((a.add (k * 4)).add 3) = some (.slice r.A r.m r.c) := by
  obtain ⟨a, e, hc⟩ := h.row SpR.cells_len hk (by decide)
  exact ⟨a, e, hc 0 _ rfl, hc 1 _ rfl, hc 2 _ rfl, hc 3 _ rfl⟩
def rightS (pages : Int) : Int → List SpD → Bool
  | _, [] => true
  | e, d :: D => if ofErr d.pg d.cl d.size d.live ≠ 0 ∨ d.pg < e ∨ pages < d.pg + pagesOf d.cl d.size then false else rightS pages (d.pg + pagesOf d.cl d.size) D
def rightP (pages : Int) (D : List SpD) : Bool := if pages < 1 ∨ 4096 < pages then false else rightS pages 0 D
def dft : SpD := ⟨0, 0, 0, []⟩
def X0 (D : List SpD) : Nat → SpC := fun i => spC (D.getD i dft)
theorem X0_at {D : List SpD} {i : Nat} {d : SpD} (h : D[i]? = some d) : X0 D i = spC d := by
  unfold X0
  rw [List.getD_eq_getElem?_getD, h]; rfl
theorem of_parts {pg cl size : Int} {l : List Int} (he : ofErr pg cl size l = 0) : newErr pg cl size = 0 ∧ riseV (slotsN cl) (-1) l = true := by
  have hne : newErr pg cl size = 0 := by
    by_cases h : newErr pg cl size = 0
    · exact h
    · unfold ofErr at he; rw [if_pos h] at he; exact absurd he h
  refine ⟨hne, ?_⟩
  unfold ofErr at he
  rw [if_neg (fun h => h hne)] at he
  by_cases h : riseV (slotsN cl) (-1) l = true
  · exact h
  · rw [if_neg h] at he; cases he
/-- What is known of spans that may stand. -/
theorem rightS_len {pages : Int} : ∀ (D : List SpD) (e : Int), e ≤ pages → rightS pages e D = true → e + D.length ≤ pages ∧ ∀ d ∈ D, ofErr d.pg d.cl d.size d.live = 0 ∧ e ≤ d.pg ∧ d.pg + pagesOf d.cl d.size ≤ pages
  | [], e, h, _ => ⟨by simpa using h, fun d hd => by cases hd⟩
  | d :: D, e, h, hr => by
    rw [rightS] at hr
    by_cases hb : ofErr d.pg d.cl d.size d.live ≠ 0 ∨ d.pg < e ∨ pages < d.pg + pagesOf d.cl d.size
    · rw [if_pos hb] at hr; cases hr
    rw [if_neg hb] at hr
    have h0 : ofErr d.pg d.cl d.size d.live = 0 := by omega
    obtain ⟨_, _, _, hp, _⟩ := new_ok (of_parts h0).1
    obtain ⟨h1, h2⟩ := rightS_len D (d.pg + pagesOf d.cl d.size) (by omega) hr
    refine ⟨by rw [List.length_cons]; omega, fun d' hd' => ?_⟩
    rcases List.mem_cons.1 hd' with rfl | hd'
    · exact ⟨h0, by omega, by omega⟩
    · obtain ⟨g1, g2, g3⟩ := h2 d' hd'
      exact ⟨g1, by omega, g3⟩
theorem rightP_ok {pages : Int} {D : List SpD} (h : rightP pages D = true) : 1 ≤ pages ∧ pages ≤ 4096 ∧ D.length ≤ 4096 ∧ ∀ d ∈ D, ofErr d.pg d.cl d.size d.live = 0 ∧ 0 ≤ d.pg ∧ d.pg + pagesOf d.cl d.size ≤ pages := by
  unfold rightP at h
  by_cases hp : pages < 1 ∨ 4096 < pages
  · rw [if_pos hp] at h; cases h
  rw [if_neg hp] at h
  obtain ⟨h1, h2⟩ := rightS_len D 0 (by omega) h
  exact ⟨by omega, by omega, by omega, h2⟩
theorem app_ptrM {w : World} {base : Nat} {v : Value} {n : Nat} {ps : Nat → Option Addr} {l : List Nat} (hown : w.ownsRow base Ty.p_span_Span 1 v n (ptrs ps l)) {q : Option Addr} (hbytes : (n + 1) * 8 ≤ 140737488355328) (hbase : base ≤ w.heap.size) {K : Value → World → Prop}
    (h : ∀ A' c' w', w'.ownsRow base Ty.p_span_Span 1 (.slice A' (n + 1) c') (n + 1) (ptrs ps l ++ [.pointer q]) → Mv (fun g => v.ownBlock = some g) w w' (fun g => (Value.slice A' (n + 1) c').ownBlock = some g) → K (.slice A' (n + 1) c') w') :
    wlet (w.alloc (.cells #[.pointer q] Ty.p_span_Span)) fun w1 => SemJ Pg (Builtin.append_ #[Ty.sl_p_span_Span, Ty.sl_p_span_Span] Ty.sl_p_span_Span #[v, .slice (some ⟨w.heap.size, 0, none⟩) 1 1]) K w1 := by
  refine wlet_intro fun w1 e1 => ?_
  have b1 : Below w.heap.size w w1 := by rw [e1]; exact (Below.refl _ _).alloc (Nat.le_refl _) _
  have hB1 : Blk w1 w.heap.size Ty.p_span_Span [.pointer q] := by rw [e1]; exact Blk.new w _ _
  clear e1
  have o1 := own_below_kp hown b1
  refine app_own base ptrs_under ptr_info rfl (by decide) o1 (m := 1) rfl (Cs.of_blk0 hB1) (fun u hu => ?_) hbytes (by decide) (Nat.le_trans hbase b1.size) fun A' c' w' o' mv => ?_
  · rw [List.mem_singleton.1 hu]; rfl
  · exact h A' c' w' o' ((Mv.of_below b1).trans mv)
theorem Sps.kp {w w' : World} {b N : Nat} {ps : Nat → Option Addr} {Fs : Nat → Nat → Prop} {X : Nat → SpC} {S : Nat → Prop} (h : Sps w b N ps Fs X) (k : Kp S w w') (hd : ∀ i, i < N → ∀ x, Fs i x → ¬ S x) : Sps w' b N ps Fs X :=
  ⟨fun i hi => (h.1 i hi).kp k (hd i hi), h.2⟩
section
variable {w0 w : World} {pages : Int} {A : Option Addr} {n c : Nat} {l : List SpR} {K : Value → World → Prop}
theorem open_loop (hx : Rws w0 A l) (hn : n = l.length) (hnb : n * 48 ≤ 140737488351232) (hp : 1 ≤ pages ∧ pages ≤ 4096) {tot : Bool}
    (hN : ∀ w', tot = false → Below w0.heap.size w0 w' → K (.tuple #[.slice none 0 0, .bool false]) w')
    (hK : ∀ B c' w' ps Fs, tot = true → Sps w' w0.heap.size n ps Fs (X0 (l.map (·.d))) → w'.ownsRow w0.heap.size Ty.p_span_Span 1 (.slice B n c') n (ptrs ps (List.range n)) → (∀ g, (Value.slice B n c').ownBlock = some g → ∀ i, i < n → ¬ Fs i g) → Below w0.heap.size w0 w' → K (.tuple #[.slice B n c', .bool true]) w') :
    ∀ (d i : Nat) (e : Int) (w : World) (B : Option Addr) (cB : Nat) (ps : Nat → Option Addr) (Fs : Nat → Nat → Prop), i + d = n → 0 ≤ e → e ≤ 4096 → rightS pages e ((l.map (·.d)).drop i) = tot → Sps w w0.heap.size i ps Fs (X0 (l.map (·.d))) →
      w.ownsRow w0.heap.size Ty.p_span_Span 1 (.slice B i cB) i (ptrs ps (List.range i)) → (∀ g, (Value.slice B i cB).ownBlock = some g → ∀ j, j < i → ¬ Fs j g) → Below w0.heap.size w0 w →
      slide_open.l0 K (d + 1) pages B i cB e A n c (n : Int) (i : Int) w := by
  intro d
  induction d with
  | zero =>
    intro i e w B cB ps Fs hi he0 he1 hr hS o hd bw
    rw [slide_open.l0_succ]
    refine cond_dec (fun h => absurd h (by omega)) (fun _ => ?_)
    obtain rfl : i = n := by omega
    rw [List.drop_of_length_le (by rw [List.length_map]; omega), rightS] at hr
    exact hK B cB w ps Fs hr.symm hS o hd bw
  | succ d ih =>
    intro i e w B cB ps Fs hi he0 he1 hr hS o hd bw
    rw [slide_open.l0_succ]
    refine cond_dec (fun _ => ?_) (fun h => absurd (by omega) h)
    have hi' : l[i]? = some (l[i]'(by omega)) := List.getElem?_eq_getElem (by omega)
    have hmem : l[i]'(by omega) ∈ l := List.getElem_mem _
    have hdrop : (l.map (·.d)).drop i = (l[i]'(by omega)).d :: (l.map (·.d)).drop (i + 1) := by
      rw [List.drop_eq_getElem_cons (by rw [List.length_map]; omega)]; simp
    generalize l[i]'(by omega) = r at hi' hmem hdrop
    have hX : X0 (l.map (·.d)) i = spC r.d := X0_at (by rw [List.getElem?_map, hi']; rfl)
    obtain ⟨c1, c2, c3, c4, c5, c6, c7⟩ := (hx.2 r hmem).below bw
    obtain ⟨a, ea, x0, x1, x2, x3⟩ := rws_at (hx.below bw).1 hi'
    rw [hdrop, rightS] at hr
    have hsz := bw.size
    unfold slide_open.p7
    rw [Int.toNat_natCast]
    refine ⟨⟨by omega, by omega⟩, a, ea, _, x0, _, x1, _, x2, _, _, _, x3, wlet_intro fun w1 e1 => ?_⟩
    have b1 : Below w.heap.size w w1 := by rw [e1]; exact (Below.refl _ _).alloc (Nat.le_refl _) _
    have hB1 : Blk w1 w.heap.size Ty.api_Span [.int .i64 0, .int .i64 0, .int .i64 0, .slice none 0 0] := by rw [e1]; exact Blk.new w _ _
    clear e1
    have g1 := hB1.lt
    generalize hg : w.heap.size = g at hB1 ⊢
    refine st4 hB1 fun w2 hB2 k2 _ => ?_
    have b2 : Below w.heap.size w w2 := b1.trans (k2.below b1.size (by omega))
    have bw2 := bw.trans (b2.mono hsz)
    refine ⟨_, hB2.cell' (j := 0) rfl, _, hB2.cell' (j := 1) rfl, _, hB2.cell' (j := 2) rfl, _, _, _, hB2.cell' (j := 3) rfl, ?_⟩
    refine span_Of_c c4 c5 c6 (c1.below b2) c2 (by omega) c7 (fun w3 hne b3 => ⟨_, _, rfl, ?_⟩) (fun w3 p F he hnew hrise hv hW b3 => ⟨_, _, rfl, ?_⟩)
    · rw [if_pos (.inl hne)] at hr
      exact cond_ne (fun _ => condP_t (hN w3 hr.symm (bw2.trans (b3.mono bw2.size)))) (fun h => absurd h hne)
    · obtain ⟨n1, n2, n3, n4, n5, n6, n7, n8, _⟩ := new_ok hnew
      have b13 : Below w.heap.size w w3 := b2.trans (b3.mono b2.size)
      have bw3 := bw.trans (b13.mono hsz)
      have s23 := b2.size
      have s33 := b3.size
      refine cond_ne (fun h => absurd rfl h) (fun _ => ?_)
      refine span_Span_Page_c hv ⟨_, rfl, ?_⟩
      refine cond_dec (fun hlt => ?_) (fun hge => ?_)
      · rw [if_pos (.inr (.inl hlt))] at hr
        exact condP_t (hN w3 hr.symm bw3)
      · refine span_Span_Page_c hv ⟨_, rfl, span_Span_Pages_c hv ⟨_, rfl, ?_⟩⟩
        have ew : IntKind.wrap .i64 (r.d.pg + pagesOf r.d.cl r.d.size) = r.d.pg + pagesOf r.d.cl r.d.size := wrap64_in (by omega) (by omega)
        rw [ew]
        refine cond_dec (fun hlt => ?_) (fun hge2 => ?_)
        · rw [if_pos (.inr (.inr hlt))] at hr
          exact hN w3 hr.symm bw3
        · rw [if_neg (by omega)] at hr
          refine span_Span_Page_c hv ⟨_, rfl, span_Span_Pages_c hv ⟨_, rfl, ?_⟩⟩
          have hv' := hv.base (b' := w0.heap.size) (by omega)
          have hlo : ∀ x, F x → w.heap.size ≤ x := fun x hx => by have := (hv.lt hx).1; omega
          -- the new pointer
          have hS3 : Sps w3 w0.heap.size (i + 1) (fun j => if j = i then p else ps j) (fun j => if j = i then F else Fs j) (X0 (l.map (·.d))) := by
            refine ⟨fun j hj => ?_, fun j j' k hj hj' hne hk hk' => ?_⟩
            · by_cases hji : j = i
              · subst hji
                rw [hX]
                show SpanV w3 w0.heap.size (if j = j then p else ps j) r.d.pg (pagesOf r.d.cl r.d.size) r.d.cl (spSize r.d.cl r.d.size) (slotsN r.d.cl) (setL r.d.live) (if j = j then F else Fs j)
                rw [if_pos rfl, if_pos rfl]
                exact hv'
              · show SpanV w3 w0.heap.size (if j = i then p else ps j) _ _ _ _ _ _ (if j = i then F else Fs j)
                rw [if_neg hji, if_neg hji]
                exact (hS.1 j (by omega)).below b13
            · have old : ∀ j, j < i + 1 → j ≠ i → ∀ k, Fs j k → k < w.heap.size := fun j hj hji k hk => ((hS.1 j (by omega)).lt hk).2
              by_cases h1 : j = i
              · have hk : F k := by simpa [h1] using hk
                have h2 : j' ≠ i := fun e => hne (by omega)
                have hk' : Fs j' k := by simpa [h2] using hk'
                have := old j' hj' h2 k hk'
                have := hlo k hk
                omega
              · have hk : Fs j k := by simpa [h1] using hk
                by_cases h2 : j' = i
                · have hk' : F k := by simpa [h2] using hk'
                  have := old j hj h1 k hk
                  have := hlo k hk'
                  omega
                · have hk' : Fs j' k := by simpa [h2] using hk'
                  exact hS.2 j j' k (by omega) (by omega) hne hk hk'
          have o3 := own_below_kp o b13
          have eptr : ptrs ps (List.range i) = ptrs (fun j => if j = i then p else ps j) (List.range i) := by
            unfold ptrs
            refine List.map_congr_left fun j hj => ?_
            have := List.mem_range.1 hj
            show Value.pointer (ps j) = .pointer (if j = i then p else ps j)
            rw [if_neg (by omega)]
          rw [eptr] at o3
          have hd3 : ∀ g, (Value.slice B i cB).ownBlock = some g → ∀ j, j < i + 1 → ¬ (fun j => if j = i then F else Fs j) j g := fun g hgB j hj hF => by
            have := (own_lt o hgB).2
            by_cases hji : j = i
            · have hF : F g := by simpa [hji] using hF
              have := hlo g hF; omega
            · have hF : Fs j g := by simpa [hji] using hF
              exact hd g hgB j (by omega) hF
          refine app_ptrM (q := p) o3 (by omega) bw3.size fun B' c' w4 o4 mv4 => ⟨_, _, _, rfl, ?_⟩
          have el : ptrs (fun j => if j = i then p else ps j) (List.range i) ++ [.pointer p] = ptrs (fun j => if j = i then p else ps j) (List.range (i + 1)) := by
            rw [List.range_succ]
            simp [ptrs]
          rw [el] at o4
          show slide_open.l0 K (d + 1) pages B' (i + 1) c' (IntKind.wrap .i64 (r.d.pg + pagesOf r.d.cl r.d.size)) A n c (n : Int) (IntKind.wrap .i64 ((i : Int) + 1)) w4
          rw [ew, cst i (by omega)]
          refine ih (i + 1) _ w4 B' c' (fun j => if j = i then p else ps j) (fun j => if j = i then F else Fs j) (by omega) (by omega) (by omega) hr (hS3.kp mv4.kp fun j hj x hx hB => hd3 x hB j hj hx) o4 (fun g hgB j hj hF => ?_) (kp_under' bw3 bw3.size mv4.kp fun x hx => (own_lt o3 hx).1)
          rcases mv4.foot g hgB with hy | hy
          · exact hd3 g hy j hj hF
          · have := ((hS3.1 j hj).lt hF).2; omega
theorem slide_open_c (hx : Rws w A l) (hn : n = l.length) (hnb : n * 48 ≤ 140737488351232)
    (hN : ∀ w', rightP pages (l.map (·.d)) = false → Below w.heap.size w w' → K (.tuple #[.slice none 0 0, .bool false]) w')
    (hK : ∀ B c' w' ps Fs, rightP pages (l.map (·.d)) = true → Sps w' w.heap.size n ps Fs (X0 (l.map (·.d))) → w'.ownsRow w.heap.size Ty.p_span_Span 1 (.slice B n c') n (ptrs ps (List.range n)) → (∀ g, (Value.slice B n c').ownBlock = some g → ∀ i, i < n → ¬ Fs i g) → Below w.heap.size w w' → K (.tuple #[.slice B n c', .bool true]) w') :
    CallsE Pg slide_open.N #[.int .i64 pages, .slice A n c] w K := by
  refine slide_open.ok ?_
  refine cond_dec (fun h => condP_t (hN w (by unfold rightP; rw [if_pos (.inl h)]) (Below.refl _ _))) (fun h1 => ?_)
  refine cond_dec (fun h => hN w (by unfold rightP; rw [if_pos (.inr h)]) (Below.refl _ _)) (fun h2 => ⟨n + 1, ?_⟩)
  have e : rightP pages (l.map (·.d)) = rightS pages 0 ((l.map (·.d)).drop 0) := by unfold rightP; rw [if_neg (by omega)]; rfl
  rw [e] at hN hK
  exact open_loop hx hn hnb ⟨by omega, by omega⟩ hN hK n 0 0 w none 0 (fun _ => none) (fun _ _ => False) (by omega) (by decide) (by decide) rfl ⟨fun i hi => by omega, fun i j k hi => by omega⟩ (World.ownsRow_nil _ _ _ _) (fun g hg => by cases hg) (Below.refl _ _)
theorem slide_Right_c (hx : Rws w A l) (hn : n = l.length) (hnb : n * 48 ≤ 140737488351232) (hK : ∀ w', Below w.heap.size w w' → K (.bool (rightP pages (l.map (·.d)))) w') : CallsE Pg slide_Right.N #[.int .i64 pages, .slice A n c] w K :=
  slide_Right.ok (slide_open_c hx hn hnb (fun w' h b' => ⟨_, _, _, _, rfl, by rw [h] at hK; exact hK w' b'⟩) (fun B c' w' ps Fs h _ _ _ b' => ⟨_, _, _, _, rfl, by rw [h] at hK; exact hK w' b'⟩))
end

end Go.Proofs.YtklmaeefnmcmlaaDoor.C
