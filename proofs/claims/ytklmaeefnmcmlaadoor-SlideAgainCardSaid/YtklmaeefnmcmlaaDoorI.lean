/-
  Parts of the proofs of this seat: what the functions compute. No condition beyond what each theorem states.
-/
import Derived.Test.YtklmaeefnmcmlaaDoorF
import Derived.Test.YtklmaeefnmcmlaaDoorRK
import Derived.Test.YtklmaeefnmcmlaaDoorA
import Derived.Test.YtklmaeefnmcmlaaDoorB
import Derived.Test.YtklmaeefnmcmlaaDoorC
import Derived.Test.YtklmaeefnmcmlaaDoorD
import Derived.Test.YtklmaeefnmcmlaaDoorE
import Derived.Test.YtklmaeefnmcmlaaDoorG
import Derived.Test.YtklmaeefnmcmlaaDoorH
set_option linter.unusedVariables false
set_option linter.unusedSimpArgs false
set_option maxRecDepth 100000
namespace Go.Proofs.YtklmaeefnmcmlaaDoor.C
open Go Go.RowKit Go.Proofs.YtklmaeefnmcmlaaDoor Go.Proofs.YtklmaeefnmcmlaaDoor.Sh Go.Proofs.YtklmaeefnmcmlaaDoor.F Go.Proofs.YtklmaeefnmcmlaaDoor.R

/-! ### spans on the heap, and the moves that are told -/
theorem kp_under' {S : Nat → Prop} {b : Nat} {w0 w w' : World} (h : Below b w0 w) (hb : b ≤ w.heap.size) (k : Kp S w w') (hs : ∀ i, S i → b ≤ i) : Below b w0 w' := h.trans (k.below hb fun i hi hp => by have := hs i hp; omega)
theorem move_info : (Pg.info? Ty.api_Move).map (fun i => (i.zero, i.size, i.bytes)) = some (some (.agg #[.int .i64 0, .int .i64 0, .int .i64 0]), 3, 24) := by kernel_rfl
theorem moves_under : Pg.underlying Ty.sl_api_Move = some (.slice Ty.api_Move) := by kernel_rfl
theorem ptr_info : (Pg.info? Ty.p_span_Span).map (fun i => (i.zero, i.size, i.bytes)) = some (some (.pointer none), 1, 8) := by kernel_rfl
theorem ptrs_under : Pg.underlying Ty.sl_p_span_Span = some (.slice Ty.p_span_Span) := by kernel_rfl
def ptrs (ps : Nat → Option Addr) (l : List Nat) : List Value := l.map fun i => .pointer (ps i)
theorem ptrs_at {ps : Nat → Option Addr} {l : List Nat} {k i : Nat} (h : l[k]? = some i) : (ptrs ps l)[k]? = some (.pointer (ps i)) := by simp [ptrs, h]
theorem ptrs_len {ps : Nat → Option Addr} {l : List Nat} : (ptrs ps l).length = l.length := by simp [ptrs]
/-- A pointer put behind others. -/
theorem app_ptr {w : World} {base : Nat} {v : Value} {n : Nat} {ps : Nat → Option Addr} {l : List Nat} (hown : w.ownsRow base Ty.p_span_Span 1 v n (ptrs ps l)) {q : Option Addr} (hbytes : (n + 1) * 8 ≤ 140737488355328) (hbase : base ≤ w.heap.size) {K : Value → World → Prop}
    (h : ∀ A' c' w', w'.ownsRow base Ty.p_span_Span 1 (.slice A' (n + 1) c') (n + 1) (ptrs ps l ++ [.pointer q]) → Below base w w' → K (.slice A' (n + 1) c') w') :
    wlet (w.alloc (.cells #[.pointer q] Ty.p_span_Span)) fun w1 => SemJ Pg (Builtin.append_ #[Ty.sl_p_span_Span, Ty.sl_p_span_Span] Ty.sl_p_span_Span #[v, .slice (some ⟨w.heap.size, 0, none⟩) 1 1]) K w1 := by
  refine wlet_intro fun w1 e1 => ?_
  have b1 : Below w.heap.size w w1 := by rw [e1]; exact (Below.refl _ _).alloc (Nat.le_refl _) _
  have hB1 : Blk w1 w.heap.size Ty.p_span_Span [.pointer q] := by rw [e1]; exact Blk.new w _ _
  clear e1
  have o1 := own_below_kp hown b1
  refine app_own base ptrs_under ptr_info rfl (by decide) o1 (m := 1) rfl (Cs.of_blk0 hB1) (fun u hu => ?_) hbytes (by decide) (Nat.le_trans hbase b1.size) fun A' c' w' o' mv => ?_
  · rw [List.mem_singleton.1 hu]; rfl
  · exact h A' c' w' o' ((b1.mono hbase).trans (mv.below (fun i hi => (own_lt o1 hi).1) (Nat.le_trans hbase b1.size)))
def Sps (w : World) (b N : Nat) (ps : Nat → Option Addr) (Fs : Nat → Nat → Prop) (X : Nat → SpC) : Prop :=
  (∀ i, i < N → SpanV w b (ps i) (X i).pg (X i).pgs (X i).cl (X i).sz (X i).n (X i).S (Fs i)) ∧ ∀ i j k, i < N → j < N → i ≠ j → Fs i k → ¬ Fs j k
def MvsV (w : World) (b t : Nat) (ms : List MvD) (Fm : Nat → Prop) : Prop :=
  ∃ A c, Blk w t Ty.sl_api_Move [.slice A ms.length c] ∧ b ≤ t ∧ w.ownsRow b Ty.api_Move 3 (.slice A ms.length c) ms.length (ms.flatMap MvD.cells) ∧ (∀ g, (Value.slice A ms.length c).ownBlock = some g → g ≠ t) ∧ Fm = fun i => i = t ∨ (Value.slice A ms.length c).ownBlock = some i
theorem MvsV.lt {w : World} {b t : Nat} {ms : List MvD} {Fm : Nat → Prop} (h : MvsV w b t ms Fm) {i : Nat} (hi : Fm i) : b ≤ i ∧ i < w.heap.size := by
  obtain ⟨A, c, h1, h2, h3, h4, rfl⟩ := h
  rcases hi with rfl | hi
  · exact ⟨h2, h1.lt⟩
  · exact own_lt h3 hi
theorem MvsV.kp {S : Nat → Prop} {w w' : World} {b t : Nat} {ms : List MvD} {Fm : Nat → Prop} (h : MvsV w b t ms Fm) (k : Kp S w w') (hd : ∀ i, Fm i → ¬ S i) : MvsV w' b t ms Fm := by
  obtain ⟨A, c, h1, h2, h3, h4, rfl⟩ := h
  exact ⟨A, c, h1.kp k (hd t (.inl rfl)), h2, own_kp h3 k (fun g hg => hd g (.inr hg)), h4, rfl⟩
/-- All that a plan works on. -/
structure Pk (w0 w : World) (b N : Nat) (ps : Nat → Option Addr) (Fs : Nat → Nat → Prop) (X : Nat → SpC) (R : List (Option Addr × List Value)) (t : Nat) (ms : List MvD) : Prop where
  sp : Sps w b N ps Fs X
  mv : ∃ Fm, MvsV w b t ms Fm ∧ (∀ i k, i < N → Fs i k → ¬ Fm k) ∧ ∀ r ∈ R, ∀ a, r.1 = some a → ¬ Fm a.block
  rows : ∀ r ∈ R, Cs w r.1 r.2
  rowd : ∀ r ∈ R, ∀ a, r.1 = some a → a.block < w.heap.size ∧ ∀ i, i < N → ¬ Fs i a.block
  bel : Below b w0 w
  tab : Tab w
  gb : gTab < b
  bw : b ≤ w0.heap.size
section
variable {w0 w : World} {b N t : Nat} {ps : Nat → Option Addr} {Fs : Nat → Nat → Prop} {X : Nat → SpC} {R : List (Option Addr × List Value)} {ms : List MvD} {K : Value → World → Prop}
theorem Pk.bs (h : Pk w0 w b N ps Fs X R t ms) : b ≤ w.heap.size := by have := h.bel.size; have := h.bw; omega
theorem Pk.below (h : Pk w0 w b N ps Fs X R t ms) {w' : World} (k : Below w.heap.size w w') : Pk w0 w' b N ps Fs X R t ms := by
  obtain ⟨Fm, h1, h2, h3⟩ := h.mv
  have hs := k.size
  exact ⟨⟨fun i hi => (h.sp.1 i hi).below k, h.sp.2⟩, ⟨Fm, h1.kp (Kp.of_below k) (fun _ _ => id), h2, h3⟩, fun r hr => (h.rows r hr).below k, fun r hr a ha => ⟨by have := (h.rowd r hr a ha).1; omega, (h.rowd r hr a ha).2⟩, h.bel.trans (k.mono h.bs), h.tab.below k h.tab.lt, h.gb, h.bw⟩
/-- One span is turned. -/
theorem Pk.upd (h : Pk w0 w b N ps Fs X R t ms) {w' : World} {i : Nat} {S : Nat → Bool} (hi : i < N) (hv : SpanV w' b (ps i) (X i).pg (X i).pgs (X i).cl (X i).sz (X i).n S (Fs i)) (k : Kp (Fs i) w w') :
    Pk w0 w' b N ps Fs (setX X i S) R t ms := by
  obtain ⟨Fm, h1, h2, h3⟩ := h.mv
  have hs := k.size
  refine ⟨⟨fun j hj => ?_, h.sp.2⟩, ⟨Fm, h1.kp k (fun x hx hF => h2 i x hi hF hx), h2, h3⟩, fun r hr => (h.rows r hr).kp k (fun a ha hF => (h.rowd r hr a ha).2 i hi hF), fun r hr a ha => ⟨by have := (h.rowd r hr a ha).1; omega, (h.rowd r hr a ha).2⟩, ?_, h.tab.kp k (fun hF => by have := ((h.sp.1 i hi).lt hF).1; have := h.gb; omega), h.gb, h.bw⟩
  · by_cases hj' : j = i
    · subst hj'; rw [setX_same]; exact hv
    · rw [setX_other hj']; exact (h.sp.1 j hj).kp k (fun x hx hF => h.sp.2 j i x hj hi hj' hx hF)
  · exact kp_under' h.bel h.bs k (fun x hx => ((h.sp.1 i hi).lt hx).1)
theorem Pk.cong (h : Pk w0 w b N ps Fs X R t ms) {Y : Nat → SpC} (e : Y = X) : Pk w0 w b N ps Fs Y R t ms := e ▸ h
/-- A row more is kept. -/
theorem Pk.add (h : Pk w0 w b N ps Fs X R t ms) {A : Option Addr} {cs : List Value} (hc : Cs w A cs) (hd : ∀ a, A = some a → a.block < w.heap.size ∧ (∀ i, i < N → ¬ Fs i a.block)) (hm : ∀ Fm, MvsV w b t ms Fm → ∀ a, A = some a → ¬ Fm a.block) : Pk w0 w b N ps Fs X ((A, cs) :: R) t ms := by
  obtain ⟨Fm, h1, h2, h3⟩ := h.mv
  refine ⟨h.sp, ⟨Fm, h1, h2, fun r hr => ?_⟩, fun r hr => ?_, fun r hr => ?_, h.bel, h.tab, h.gb, h.bw⟩
  · rcases List.mem_cons.1 hr with rfl | hr
    · exact hm Fm h1
    · exact h3 r hr
  · rcases List.mem_cons.1 hr with rfl | hr
    · exact hc
    · exact h.rows r hr
  · rcases List.mem_cons.1 hr with rfl | hr
    · exact hd
    · exact h.rowd r hr
theorem Pk.tail (h : Pk w0 w b N ps Fs X R t ms) {r0 : Option Addr × List Value} {R' : List (Option Addr × List Value)} (e : R = r0 :: R') : Pk w0 w b N ps Fs X R' t ms := by
  subst e
  obtain ⟨Fm, h1, h2, h3⟩ := h.mv
  exact ⟨h.sp, ⟨Fm, h1, h2, fun r hr => h3 r (List.mem_cons_of_mem _ hr)⟩, fun r hr => h.rows r (List.mem_cons_of_mem _ hr), fun r hr => h.rowd r (List.mem_cons_of_mem _ hr), h.bel, h.tab, h.gb, h.bw⟩
/-- The closure of Plan: a move is told. -/
theorem slide_Plan_1_c (h : Pk w0 w b N ps Fs X R t ms) {fr to len : Int} (hml : ms.length ≤ 1000000000) (hK : ∀ w' T, Pk w0 w' b N ps Fs X R t (ms ++ [⟨fr, to, len⟩]) → Kp T w w' → (∀ r ∈ R, ∀ a, r.1 = some a → ¬ T a.block) → K (.tuple #[]) w') :
    CallsE Pg slide_Plan_1.N #[.int .i64 fr, .int .i64 to, .int .i64 len, .pointer (some ⟨t, 0, none⟩)] w K := by
  have hbs := h.bs
  obtain ⟨Fm, ⟨A, c, h1, h2, h3, h4, rfl⟩, d1, d2⟩ := h.mv
  have ht := h1.lt
  refine slide_Plan_1.ok ⟨_, _, _, h1.cell' (j := 0) rfl, wlet_intro fun w1 e1 => ?_⟩
  have b1 : Below w.heap.size w w1 := by rw [e1]; exact (Below.refl _ _).alloc (Nat.le_refl _) _
  have hB1 : Blk w1 w.heap.size Ty.api_Move (MvD.cells ⟨fr, to, len⟩) := by rw [e1]; exact Blk.new w _ _
  clear e1
  have h' := h.below b1
  have o1 := own_below_kp h3 b1
  have s1 := b1.size
  refine app_own b moves_under move_info rfl (by decide) o1 (m := 1) rfl (Cs.of_blk0 hB1) (fun u hu => ?_) (by omega) (by decide) h'.bs fun A2 c2 w2 o2 mv2 => ⟨_, _, _, rfl, ?_⟩
  · simp only [MvD.cells, List.mem_cons, List.mem_nil_iff, or_false] at hu
    rcases hu with rfl | rfl | rfl <;> rfl
  · have hB2 := (h1.kp (Kp.of_below b1) id).kp mv2.kp (fun e => h4 t e rfl)
    have s2 := mv2.kp.size
    refine blk_set1 (k := 0) hB2 (by simp) fun w3 hB3 k3 _ => ?_
    have hB3 : Blk w3 t Ty.sl_api_Move [.slice A2 (ms.length + 1) c2] := hB3
    have s3 := k3.size
    have e0 : (ms ++ [(⟨fr, to, len⟩ : MvD)]).length = ms.length + 1 := by simp
    have ec : (ms ++ [(⟨fr, to, len⟩ : MvD)]).flatMap MvD.cells = ms.flatMap MvD.cells ++ MvD.cells ⟨fr, to, len⟩ := by rw [List.flatMap_append]; simp
    have f2 : ∀ g, (Value.slice A2 (ms.length + 1) c2).ownBlock = some g → g ≠ t := fun g hg e => by
      rcases mv2.foot g hg with hx | hx
      · exact h4 g hx e
      · omega
    have o3 := own_kp o2 k3 f2
    have kall : Kp (fun i => i = t ∨ (Value.slice A ms.length c).ownBlock = some i) w w3 := ((Kp.of_below b1).trans mv2.kp (T := fun i => i = t ∨ (Value.slice A ms.length c).ownBlock = some i) (fun _ _ h => h.elim) (fun _ _ h => .inr h)).trans k3 (fun _ _ h => h) (fun _ _ h => .inl h)
    have hold : ∀ g, (Value.slice A2 (ms.length + 1) c2).ownBlock = some g → (Value.slice A ms.length c).ownBlock = some g ∨ w1.heap.size ≤ g := fun g hg => mv2.foot g hg
    refine hK w3 _ ⟨⟨fun i hi => (h.sp.1 i hi).kp kall (fun x hx => d1 i x hi hx), h.sp.2⟩, ⟨_, ⟨A2, c2, by rw [e0]; exact hB3, h2, by rw [e0, ec]; exact o3, by rw [e0]; exact f2, rfl⟩, fun i k hi hk hm => ?_, fun r hr a ha hm => ?_⟩, fun r hr => (h.rows r hr).kp kall (fun a ha => d2 r hr a ha), fun r hr a ha => ⟨by have := (h.rowd r hr a ha).1; omega, (h.rowd r hr a ha).2⟩, ?_, h.tab.kp kall (fun hm => ?_), h.gb, h.bw⟩ kall d2
    · rw [e0] at hm
      rcases hm with hm | hm
      · exact d1 i k hi hk (.inl hm)
      · rcases hold k hm with hx | hx
        · exact d1 i k hi hk (.inr hx)
        · have := ((h.sp.1 i hi).lt hk).2; omega
    · rw [e0] at hm
      rcases hm with hm | hm
      · exact d2 r hr a ha (.inl hm)
      · rcases hold _ hm with hx | hx
        · exact d2 r hr a ha (.inr hx)
        · have := (h.rowd r hr a ha).1; omega
    · refine kp_under' h.bel hbs kall fun x hx => ?_
      rcases hx with rfl | hx
      · exact h2
      · exact (own_lt h3 hx).1
    · have := h.gb
      rcases hm with hm | hm
      · omega
      · have := (own_lt h3 hm).1; omega
end

end Go.Proofs.YtklmaeefnmcmlaaDoor.C
