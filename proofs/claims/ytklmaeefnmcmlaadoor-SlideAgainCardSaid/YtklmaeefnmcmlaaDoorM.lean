/-
  Parts of the proofs of this seat: what the functions compute. No condition beyond what each theorem states.
-/
import Derived.Test.YtklmaeefnmcmlaaDoorF
import Derived.Test.YtklmaeefnmcmlaaDoorRK
import Derived.Test.YtklmaeefnmcmlaaDoorA
import Derived.Test.YtklmaeefnmcmlaaDoorB
import Derived.Test.YtklmaeefnmcmlaaDoorC
import Derived.Test.YtklmaeefnmcmlaaDoorD
import Derived.Test.YtklmaeefnmcmlaaDoorE
import Derived.Test.YtklmaeefnmcmlaaDoorG
import Derived.Test.YtklmaeefnmcmlaaDoorH
import Derived.Test.YtklmaeefnmcmlaaDoorI
import Derived.Test.YtklmaeefnmcmlaaDoorJ
import Derived.Test.YtklmaeefnmcmlaaDoorK
import Derived.Test.YtklmaeefnmcmlaaDoorL
set_option linter.unusedVariables false
set_option linter.unusedSimpArgs false
set_option maxRecDepth 100000
namespace Go.Proofs.YtklmaeefnmcmlaaDoor.C
open Go Go.RowKit Go.Proofs.YtklmaeefnmcmlaaDoor Go.Proofs.YtklmaeefnmcmlaaDoor.Sh Go.Proofs.YtklmaeefnmcmlaaDoor.F Go.Proofs.YtklmaeefnmcmlaaDoor.R

theorem span_info : (Pg.info? Ty.api_Span).map (fun i => (i.zero, i.size, i.bytes)) = some (some (.agg #[.int .i64 0, .int .i64 0, .int .i64 0, .slice none 0 0]), 4, 48) := by kernel_rfl
theorem spans_under : Pg.underlying Ty.sl_api_Span = some (.slice Ty.api_Span) := by kernel_rfl
theorem ownBlk {A : Option Addr} {n c g : Nat} (h : (Value.slice A n c).ownBlock = some g) : ∃ a, A = some a ∧ a.block = g := by
  cases A with
  | none => cases h
  | some a => exact ⟨a, rfl, Option.some.inj h⟩
section
variable {w0 w : World} {b N t : Nat} {ps : Nat → Option Addr} {Fs : Nat → Nat → Prop} {X : Nat → SpC} {R : List (Option Addr × List Value)} {ms : List MvD} {K : Value → World → Prop}
theorem Pk.addNew (h : Pk w0 w b N ps Fs X R t ms) {w' : World} (k : Below w.heap.size w w') {A : Option Addr} {cs : List Value} (hc : Cs w' A cs) (hd : ∀ a, A = some a → w.heap.size ≤ a.block ∧ a.block < w'.heap.size) : Pk w0 w' b N ps Fs X ((A, cs) :: R) t ms := by
  have h' := h.below k
  obtain ⟨Fm, h1, h2, h3⟩ := h.mv
  refine ⟨h'.sp, ⟨Fm, h1.kp (Kp.of_below k) (fun _ _ => id), h2, fun r hr a ha hF => ?_⟩, fun r hr => ?_, fun r hr => ?_, h'.bel, h'.tab, h.gb, h.bw⟩
  · rcases List.mem_cons.1 hr with rfl | hr
    · have := (h1.lt hF).2; have := (hd a ha).1; omega
    · exact h3 r hr a ha hF
  · rcases List.mem_cons.1 hr with rfl | hr
    · exact hc
    · exact h'.rows r hr
  · rcases List.mem_cons.1 hr with rfl | hr
    · exact fun a ha => ⟨(hd a ha).2, fun i hi hF => by have := ((h.sp.1 i hi).lt hF).2; have := (hd a ha).1; omega⟩
    · exact h'.rowd r hr
theorem Pk.swap (h : Pk w0 w b N ps Fs X R t ms) {R' : List (Option Addr × List Value)} (e : ∀ r ∈ R', r ∈ R) : Pk w0 w b N ps Fs X R' t ms := by
  obtain ⟨Fm, h1, h2, h3⟩ := h.mv
  exact ⟨h.sp, ⟨Fm, h1, h2, fun r hr => h3 r (e r hr)⟩, fun r hr => h.rows r (e r hr), fun r hr => h.rowd r (e r hr), h.bel, h.tab, h.gb, h.bw⟩
/-- The first row grows. -/
theorem Pk.grow {O O' : Option Addr} {cs cs' : List Value} {F F' : Nat → Prop} {w' : World} (h : Pk w0 w b N ps Fs X ((O, cs) :: R) t ms) (mv : Mv F w w' F') (hF : ∀ g, F g → b ≤ g ∧ ∃ o, O = some o ∧ o.block = g) (hd : ∀ r ∈ R, ∀ a, r.1 = some a → ¬ F a.block)
    (hF' : ∀ a, O' = some a → F' a.block ∧ a.block < w'.heap.size) (hc : Cs w' O' cs') : Pk w0 w' b N ps Fs X ((O', cs') :: R) t ms ∧ ∀ r ∈ R, ∀ a, r.1 = some a → ¬ F' a.block := by
  obtain ⟨Fm, h1, h2, h3⟩ := h.mv
  have hs := mv.kp.size
  have fsF : ∀ i x, i < N → Fs i x → ¬ F x := fun i x hi hx hFx => by
    obtain ⟨_, o, ho, e⟩ := hF x hFx
    exact (h.rowd _ (List.mem_cons_self ..) o ho).2 i hi (e ▸ hx)
  have fmF : ∀ x, Fm x → ¬ F x := fun x hx hFx => by
    obtain ⟨_, o, ho, e⟩ := hF x hFx
    exact h3 _ (List.mem_cons_self ..) o ho (e ▸ hx)
  have rlt : ∀ r ∈ R, ∀ a, r.1 = some a → a.block < w.heap.size := fun r hr a ha => (h.rowd r (List.mem_cons_of_mem _ hr) a ha).1
  have hd' : ∀ r ∈ R, ∀ a, r.1 = some a → ¬ F' a.block := fun r hr a ha hx => by
    rcases mv.foot _ hx with hy | hy
    · exact hd r hr a ha hy
    · have := rlt r hr a ha; omega
  refine ⟨⟨h.sp.kp mv.kp (fun i hi x hx => fsF i x hi hx), ⟨Fm, h1.kp mv.kp fmF, h2, fun r hr a ha hx => ?_⟩, fun r hr => ?_, fun r hr a ha => ?_, kp_under' h.bel h.bs mv.kp (fun x hx => (hF x hx).1), h.tab.kp mv.kp (fun hx => by have := (hF _ hx).1; have := h.gb; omega), h.gb, h.bw⟩, hd'⟩
  · rcases List.mem_cons.1 hr with rfl | hr
    · rcases mv.foot _ (hF' a ha).1 with hy | hy
      · exact fmF _ hx hy
      · have := (h1.lt hx).2; omega
    · exact h3 r (List.mem_cons_of_mem _ hr) a ha hx
  · rcases List.mem_cons.1 hr with rfl | hr
    · exact hc
    · exact (h.rows r (List.mem_cons_of_mem _ hr)).kp mv.kp (fun a ha => hd r hr a ha)
  · rcases List.mem_cons.1 hr with rfl | hr
    · refine ⟨(hF' a ha).2, fun i hi hx => ?_⟩
      rcases mv.foot _ (hF' a ha).1 with hy | hy
      · exact fsF i _ hi hx hy
      · have := ((h.sp.1 i hi).lt hx).2; omega
    · exact ⟨by have := rlt r hr a ha; omega, (h.rowd r (List.mem_cons_of_mem _ hr) a ha).2⟩
def RowPure (r : SpR) : Prop := r.m = r.d.live.length ∧ r.m * 8 ≤ 140737488351232 ∧ I64 r.d.pg ∧ I64 r.d.cl ∧ I64 r.d.size ∧ ∀ x ∈ r.d.live, I64 x
theorem plan_fin {A : Option Addr} {cA : Nat} (hG : Good N X) (hN : N ≤ 4096) {L : List SpD} {M : List MvD}
    (hK : ∀ (O : Option Addr) (cO : Nat) (outs : List SpR) (R : List (Option Addr × List Value)) (w' : World), Pk w0 w' b N ps Fs X ((O, outs.flatMap SpR.cells) :: R) t M → outs.map (·.d) = L → (∀ r ∈ outs, (r.A, nums .i64 r.d.live) ∈ R ∧ RowPure r) → slide_Plan.p16 K ⟨t, 0, none⟩ O outs.length cO w') :
    ∀ (d i : Nat) (page : Int) (w : World) (O : Option Addr) (cO : Nat) (outs : List SpR) (R : List (Option Addr × List Value)) (ms : List MvD), i + d = N → 0 ≤ page → page ≤ 16 * i → outs.length ≤ i → ms.length ≤ 1000000 + i → Pk w0 w b N ps Fs X ((O, outs.flatMap SpR.cells) :: R) t ms → (A, ptrs ps (List.range N)) ∈ R →
      (∀ r ∈ outs, (r.A, nums .i64 r.d.live) ∈ R ∧ RowPure r) → w.ownsRow b Ty.api_Span 4 (.slice O outs.length cO) outs.length (outs.flatMap SpR.cells) → (∀ r ∈ R, ∀ a, r.1 = some a → ¬ (Value.slice O outs.length cO).ownBlock = some a.block) →
      outs.map (·.d) ++ finL X i d page = L → ms ++ finM X i d page = M →
      slide_Plan.l1 K (d + 1) ⟨t, 0, none⟩ slide_Plan_1.N (tellC t) O outs.length cO page A N cA (N : Int) (i : Int) w := by
  intro d
  induction d with
  | zero =>
    intro i page w O cO outs R ms hi h0 h1 ho hm hP hA hr o hod eL eM
    rw [slide_Plan.l1_succ]
    refine cond_dec (fun h => absurd h (by omega)) (fun _ => ?_)
    rw [finL, List.append_nil] at eL
    rw [finM, List.append_nil] at eM
    subst eM
    exact hK O cO outs R w hP eL hr
  | succ d ih =>
    intro i page w O cO outs R ms hi h0 h1 ho hm hP hA hr o hod eL eM
    rw [slide_Plan.l1_succ]
    refine cond_dec (fun _ => ?_) (fun h => absurd (by omega) h)
    have hiN : i < N := by omega
    obtain ⟨g1, g2, g3, g4, g5, g6, g7, g8, g9, g10, g11⟩ := hG i hiN
    obtain ⟨a, ea, hc⟩ := (hP.rows _ (List.mem_cons_of_mem _ hA)).at (ptrs_at (ps := ps) (l := List.range N) (k := i) (i := i) (List.getElem?_range hiN))
    refine ⟨⟨by omega, by omega⟩, a, ea, ps i, by rw [Int.toNat_natCast]; exact hc, ?_⟩
    refine span_Span_Live_c (hP.sp.1 i hiN) g1 fun w1 b1 => ⟨_, rfl, ?_⟩
    have hP1 := hP.below b1
    have o1 := own_below_kp o b1
    rw [finL] at eL
    rw [finM] at eM
    refine cond_eq (fun hz => ?_) (fun hz => ?_)
    · rw [if_pos (by omega)] at eL eM
      show slide_Plan.l1 K (d + 1) _ _ _ _ _ _ _ _ _ _ _ (IntKind.wrap .i64 ((i : Int) + 1)) w1
      rw [cst i (by omega)]
      exact ih (i + 1) page w1 O cO outs R ms (by omega) h0 (by omega) (by omega) (by omega) hP1 hA hr o1 hod eL eM
    · rw [if_neg (by omega)] at eL eM
      -- behind the move
      have fin : ∀ (w2 : World) (ms' : List MvD), Pk w0 w2 b N ps Fs X ((O, outs.flatMap SpR.cells) :: R) t ms' → w2.ownsRow b Ty.api_Span 4 (.slice O outs.length cO) outs.length (outs.flatMap SpR.cells) → ms'.length ≤ 1000000 + (i + 1) → ms' ++ finM X (i + 1) d (page + (X i).pgs) = M →
          slide_Plan.p15 (slide_Plan.l1 K (d + 1)) K ⟨t, 0, none⟩ slide_Plan_1.N (tellC t) O outs.length cO page (ps i) A N cA (N : Int) (i : Int) w2 := fun w2 ms' hP2 o2 hm2 eM2 => by
        refine span_Span_Data_c (hP2.sp.1 i hiN) hP2.tab fun A3 m3 c3 w3 hm3 o3 b3 => ⟨_, _, _, _, _, _, rfl, wlet_intro fun w4 e4 => ?_⟩
        have b4 : Below w3.heap.size w3 w4 := by rw [e4]; exact (Below.refl _ _).alloc (Nat.le_refl _) _
        have hB4 : Blk w4 w3.heap.size Ty.api_Span [.int .i64 0, .int .i64 0, .int .i64 0, .slice none 0 0] := by rw [e4]; exact Blk.new w3 _ _
        clear e4
        have s3 := b3.size
        have s4 := hB4.lt
        generalize hg : w3.heap.size = g at hB4 s4 ⊢
        refine st4 hB4 fun w5 hB5 k5 _ => ?_
        refine blk_set1 (k := 0) hB5 (by simp) fun w6 hB6 k6 _ => ?_
        have hB6 : Blk w6 g Ty.api_Span [.int .i64 page, .int .i64 (X i).cl, .int .i64 (dSize (X i).cl (X i).sz), .slice A3 m3 c3] := hB6
        have b36 : Below w3.heap.size w3 w6 := (b4.trans (k5.below b4.size (by omega))).trans (k6.below (by have := b4.size; have := k5.size; omega) (by omega))
        have b26 : Below w2.heap.size w2 w6 := b3.trans (b36.mono s3)
        have hP6 := hP2.below b26
        refine span_Span_Pages_c (hP6.sp.1 i hiN) ⟨_, rfl, ?_⟩
        refine ⟨_, hB6.cell' (j := 0) rfl, _, hB6.cell' (j := 1) rfl, _, hB6.cell' (j := 2) rfl, _, _, _, hB6.cell' (j := 3) rfl, wlet_intro fun w7 e7 => ?_⟩
        have b7 : Below w6.heap.size w6 w7 := by rw [e7]; exact (Below.refl _ _).alloc (Nat.le_refl _) _
        have hB7 : Blk w7 w6.heap.size Ty.api_Span (SpR.cells ⟨⟨page, (X i).cl, dSize (X i).cl (X i).sz, memL (X i).S 0 (X i).n⟩, A3, m3, c3⟩) := by rw [e7]; exact Blk.new w6 _ _
        clear e7
        have b27 : Below w2.heap.size w2 w7 := b26.trans (b7.mono b26.size)
        have b37 : Below w3.heap.size w3 w7 := b36.trans (b7.mono b36.size)
        have o37 := own_below_kp o3 b37
        have f3 : ∀ a, A3 = some a → w2.heap.size ≤ a.block ∧ a.block < w7.heap.size := fun a ha => own_lt o37 (g := a.block) (by rw [ha]; rfl)
        have hP7 := (hP2.addNew b27 (Cs.ofOwn o37) f3).swap (R' := (O, outs.flatMap SpR.cells) :: (A3, nums .i64 (memL (X i).S 0 (X i).n)) :: R) (fun r hr => by
          rcases List.mem_cons.1 hr with rfl | hr
          · simp
          · rcases List.mem_cons.1 hr with rfl | hr
            · simp
            · simp [hr])
        have o27 := own_below_kp o2 b27
        refine app_own b spans_under span_info rfl (by decide) o27 (m := 1) rfl (Cs.of_blk0 hB7) (fun u hu => ?_) (by omega) (by decide) hP7.bs fun O8 c8 w8 o8 mv8 => ⟨_, _, _, rfl, ?_⟩
        · simp only [SpR.cells, List.mem_cons, List.mem_nil_iff, or_false] at hu
          rcases hu with rfl | rfl | rfl | rfl <;> rfl
        · obtain ⟨hP8, hod8⟩ := hP7.grow (O' := O8) (cs' := outs.flatMap SpR.cells ++ SpR.cells ⟨⟨page, (X i).cl, dSize (X i).cl (X i).sz, memL (X i).S 0 (X i).n⟩, A3, m3, c3⟩) mv8
            (fun g hg => ⟨(own_lt o27 hg).1, ownBlk hg⟩)
            (fun r hr a ha hx => by
              rcases List.mem_cons.1 hr with rfl | hr
              · have := (own_lt o2 hx).2; have := (f3 a ha).1; omega
              · exact hod r hr a ha hx)
            (fun a ha => by
              have hb : (Value.slice O8 (outs.length + 1) c8).ownBlock = some a.block := by rw [ha]; rfl
              exact ⟨hb, (own_lt o8 hb).2⟩)
            (Cs.ofOwn o8)
          generalize hr' : (⟨⟨page, (X i).cl, dSize (X i).cl (X i).sz, memL (X i).S 0 (X i).n⟩, A3, m3, c3⟩ : SpR) = r' at o8 hP8
          have el : outs.length + 1 = (outs ++ [r']).length := by simp
          have ec : outs.flatMap SpR.cells ++ r'.cells = (outs ++ [r']).flatMap SpR.cells := by rw [List.flatMap_append]; simp
          have ew : IntKind.wrap .i64 (page + (X i).pgs) = page + (X i).pgs := wrap64_in (by omega) (by omega)
          rw [el, ec] at o8
          rw [el] at hod8
          rw [ec] at hP8
          rw [el]
          show slide_Plan.l1 K (d + 1) _ _ _ O8 (outs ++ [r']).length c8 (IntKind.wrap .i64 (page + (X i).pgs)) _ _ _ _ (IntKind.wrap .i64 ((i : Int) + 1)) w8
          rw [ew, cst i (by omega)]
          have hm16 := @memL_le (X i).S 0 (X i).n
          have hs16 := (clsSlots_nat (X i).cl).2
          refine ih (i + 1) (page + (X i).pgs) w8 O8 c8 (outs ++ [r']) _ ms' (by omega) (by omega) (by omega) (by simp; omega) (by omega) hP8 (List.mem_cons_of_mem _ hA) (fun r hr2 => ?_) o8 hod8 ?_ eM2
          · rcases List.mem_append.1 hr2 with h | h
            · exact ⟨List.mem_cons_of_mem _ (hr r h).1, (hr r h).2⟩
            · obtain rfl := List.mem_singleton.1 h
              subst hr'
              refine ⟨List.mem_cons_self .., hm3, ?_, ⟨by show _ ≤ page; omega, by show page ≤ _; omega⟩, ⟨by show _ ≤ (X i).cl; omega, by show (X i).cl ≤ _; omega⟩, ?_, memL_I64 (by omega)⟩
              · show m3 * 8 ≤ _; omega
              · show I64 (dSize _ _)
                unfold dSize
                split
                · exact ⟨by omega, by omega⟩
                · exact ⟨by decide, by decide⟩
          · rw [List.map_append, List.append_assoc, ← eL, ← hr']; rfl
      refine span_Span_Page_c (hP1.sp.1 i hiN) ⟨_, rfl, ?_⟩
      refine cond_ne (fun hne => ?_) (fun he => ?_)
      · rw [if_pos hne] at eM
        refine span_Span_Page_c (hP1.sp.1 i hiN) ⟨_, rfl, span_Span_Pages_c (hP1.sp.1 i hiN) ⟨_, rfl, callG_intro (by kernel_rfl) ?_⟩⟩
        rw [wrap64_in (x := (X i).pg * 256) (by omega) (by omega), wrap64_in (x := page * 256) (by omega) (by omega), wrap64_in (x := (X i).pgs * 256) (by omega) (by omega)]
        show CallsE Pg slide_Plan_1.N #[.int .i64 ((X i).pg * 256), .int .i64 (page * 256), .int .i64 ((X i).pgs * 256), .pointer (some ⟨t, 0, none⟩)] w1 _
        refine slide_Plan_1_c hP1 (by omega) fun w2 T hP2 k2 hT2 => ⟨rfl, ?_⟩
        refine fin w2 _ hP2 (own_kp o1 k2 fun g hg hx => ?_) (by simp; omega) (by rw [← eM, List.append_assoc])
        obtain ⟨o', ho', e'⟩ := ownBlk hg
        exact hT2 _ (List.mem_cons_self ..) o' ho' (e' ▸ hx)
      · rw [if_neg (fun h => h he), List.nil_append] at eM
        exact fin w1 ms hP1 o1 (by omega) eM
end
section
variable {w : World} {pages : Int} {A : Option Addr} {n c : Nat} {l : List SpR} {K : Value → World → Prop}
theorem slide_Plan_c (hx : Rws w A l) (hn : n = l.length) (hnb : n * 48 ≤ 140737488351232) (hT : Tab w)
    (hN : rightP pages (l.map (·.d)) = false → ∀ w', Below w.heap.size w w' → K (.tuple #[.slice none 0 0, .slice none 0 0, .int .i64 4]) w')
    (hK : rightP pages (l.map (·.d)) = true → ∀ (O : Option Addr) (cO : Nat) (M : Option Addr) (cM : Nat) (outs : List SpR) (w' : World), Rws w' O outs → outs.map (·.d) = planL (l.map (·.d)) → Cs w' M ((planM (l.map (·.d))).flatMap MvD.cells) → Below w.heap.size w w' →
      K (.tuple #[.slice O outs.length cO, .slice M (planM (l.map (·.d))).length cM, .int .i64 0]) w') :
    CallsE Pg slide_Plan.N #[.int .i64 pages, .slice A n c] w K := by
  refine slide_Plan.ok (slide_open_c hx hn hnb (fun w1 h b1 => ⟨_, _, _, _, rfl, condP_t (hN h w1 b1)⟩) (fun B cB w1 ps Fs h hS o hd b1 => ⟨_, _, _, _, rfl, condP_f ?_⟩))
  have hK := hK h
  have hD : (l.map (·.d)).length = n := by rw [List.length_map, hn]
  obtain ⟨_, _, p3, _⟩ := rightP_ok h
  have hG := X0_good h
  rw [hD] at p3 hG
  have s1 := b1.size
  have htl := hT.lt
  refine wlet_intro fun w2 e2 => ?_
  have b2 : Below w1.heap.size w1 w2 := by rw [e2]; exact (Below.refl _ _).alloc (Nat.le_refl _) _
  have hB2 : Blk w2 w1.heap.size Ty.sl_api_Move [.slice none 0 0] := by rw [e2]; exact Blk.new w1 _ _
  clear e2
  have b2' := b1.trans (b2.mono s1)
  have s2 := hB2.lt
  have hlt : ∀ a, B = some a → w.heap.size ≤ a.block ∧ a.block < w1.heap.size := fun a ha => own_lt o (g := a.block) (by rw [ha]; rfl)
  have hS2 : Sps w2 w.heap.size n ps Fs (X0 (l.map (·.d))) := hS.kp (Kp.of_below b2) (fun _ _ _ _ => id)
  have hP : Pk w w2 w.heap.size n ps Fs (X0 (l.map (·.d))) [(none, []), (B, ptrs ps (List.range n))] w1.heap.size [] := by
    refine ⟨hS2, ⟨_, ⟨none, 0, hB2, s1, World.ownsRow_nil _ _ _ _, (fun g hg => by cases hg), rfl⟩, fun i k hi hk hm => ?_, fun r hr a ha hm => ?_⟩, fun r hr => ?_, fun r hr a ha => ?_, b2', hT.below b2' htl, htl, Nat.le_refl _⟩
    · rcases hm with hm | hm
      · have := ((hS.1 i hi).lt hk).2; omega
      · cases hm
    · rcases List.mem_cons.1 hr with rfl | hr
      · cases ha
      · obtain rfl := List.mem_singleton.1 hr
        rcases hm with hm | hm
        · have := (hlt a ha).2; omega
        · cases hm
    · rcases List.mem_cons.1 hr with rfl | hr
      · exact Cs.nil _ _
      · obtain rfl := List.mem_singleton.1 hr
        exact (Cs.ofOwn o).below b2
    · rcases List.mem_cons.1 hr with rfl | hr
      · cases ha
      · obtain rfl := List.mem_singleton.1 hr
        exact ⟨by have := (hlt a ha).2; omega, fun i hi hF => hd a.block (by rw [show B = some a from ha]; rfl) i hi hF⟩
  refine ⟨8, ?_⟩
  have hA : (B, ptrs ps (List.range n)) ∈ [((none : Option Addr), ([] : List Value)), (B, ptrs ps (List.range n))] := List.mem_cons_of_mem _ (List.mem_cons_self ..)
  have hP0 : Pk w w2 w.heap.size n ps Fs (stX n (X0 (l.map (·.d))) 0) [(none, []), (B, ptrs ps (List.range n))] w1.heap.size (stM n (X0 (l.map (·.d))) 0) := hP
  refine plan_classes hG p3 (A := B) (cA := cB) hA (fun w3 hP3 => ⟨n + 1, ?_⟩) 7 0 w2 (Nat.zero_add _) hP0
  have hml := stM_len (N := n) (X := X0 (l.map (·.d))) 7 (Nat.le_refl _)
  have hml2 : 7 * (n * 16) ≤ 7 * (4096 * 16) := Nat.mul_le_mul (Nat.le_refl _) (Nat.mul_le_mul p3 (Nat.le_refl _))
  have eL : planL (l.map (·.d)) = finL (stX n (X0 (l.map (·.d))) 7) 0 n 0 := by unfold planL; rw [hD]
  have eM : planM (l.map (·.d)) = stM n (X0 (l.map (·.d))) 7 ++ finM (stX n (X0 (l.map (·.d))) 7) 0 n 0 := by unfold planM; rw [hD]
  have hG7 := stX_good hG 7
  generalize stX n (X0 (l.map (·.d))) 7 = Y at hG7 hP3 eL eM
  generalize stM n (X0 (l.map (·.d))) 7 = M0 at hP3 eM hml
  generalize hPL : planL (l.map (·.d)) = PL at eL hK
  generalize hPM : planM (l.map (·.d)) = PM at eM hK
  have eL' : ([] : List SpR).map (·.d) ++ finL Y 0 n 0 = PL := by rw [List.map_nil, List.nil_append]; exact eL.symm
  refine plan_fin (A := B) (cA := cB) hG7 p3 (L := PL) (M := PM) (fun O cO outs R w4 hP4 hL hr => ?_) n 0 0 w3 none 0 [] [(B, ptrs ps (List.range n))] _ (by omega) (by decide) (by decide) (Nat.le_refl _) (by omega) hP3 (by simp) (fun r hr => by cases hr) (World.ownsRow_nil _ _ _ _) (fun r hr a ha h => by cases h) eL' eM.symm
  obtain ⟨Fm, ⟨M, cM, h1, h2, h3, h4, rfl⟩, _, _⟩ := hP4.mv
  refine ⟨_, _, _, h1.cell' (j := 0) rfl, hK O cO M cM outs w4 ⟨hP4.rows _ (List.mem_cons_self ..), fun r hr' => ?_⟩ hL (Cs.ofOwn h3) hP4.bel⟩
  obtain ⟨m1, m2⟩ := hr r hr'
  exact ⟨hP4.rows _ (List.mem_cons_of_mem _ m1), m2⟩
end

end Go.Proofs.YtklmaeefnmcmlaaDoor.C
