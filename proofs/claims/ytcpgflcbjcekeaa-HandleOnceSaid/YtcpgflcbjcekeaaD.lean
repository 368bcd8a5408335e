/-
  Parts of the proofs of this seat: what the functions compute. No condition beyond what each theorem states.
-/
import Derived.Test.YtcpgflcbjcekeaaF
import Derived.Test.YtcpgflcbjcekeaaRK
import Derived.Test.YtcpgflcbjcekeaaB
import Derived.Test.YtcpgflcbjcekeaaC
set_option linter.unusedVariables false
set_option linter.unusedSimpArgs false
set_option maxRecDepth 100000
namespace Go.Proofs.Ytcpgflcbjcekeaa.C
open Go Go.RowKit Go.Proofs.Ytcpgflcbjcekeaa Go.Proofs.Ytcpgflcbjcekeaa.Sh Go.Proofs.Ytcpgflcbjcekeaa.F Go.Proofs.Ytcpgflcbjcekeaa.R

/-! ### HandleStale -/
/-- What was given at index i with generation g is gone. -/
def Gone (l : List Row) (i : Nat) (g : Int) : Prop := ∃ r, l[i]? = some r ∧ g ≤ r.gen ∧ (r.live = true → g < r.gen)
theorem Gone.noRow {l : List Row} {i : Nat} {g : Int} (h : Gone l i g) (hi : i < 4096) (hg : 1 ≤ g ∧ g ≤ 65535) : rowAt l (hdl (i + 1) g) = none := by
  cases e : rowAt l (hdl (i + 1) g) with
  | none => rfl
  | some k =>
    obtain ⟨r, hr, hkl, hlv, hm, hgn⟩ := rowAt_lt e
    obtain ⟨r', hr', h1, h2⟩ := h
    have eh : hdl (i + 1) g = (i + 1) + 65536 * g := by unfold hdl; rw [if_neg (by omega)]
    rw [eh] at hm hgn
    have : k = i := by omega
    subst this
    rw [hr] at hr'
    cases hr'
    have := h2 hlv
    omega
theorem Gone.made {m : Nat} {l : List Row} {i : Nat} {g : Int} (h : Gone l i g) (k q : Int) : Gone (mkL l m k q) i g := by
  obtain ⟨r, hr, h1, h2⟩ := h
  have hil := (List.getElem?_eq_some_iff.1 hr).1
  unfold mkL
  by_cases c1 : nextI l < l.length
  · rw [if_pos c1]
    by_cases e : nextI l = i
    · subst e
      refine ⟨_, List.getElem?_set_self hil, ?_, ?_⟩
      · rw [getD_of hr]; simp only; omega
      · intro _; rw [getD_of hr]; simp only; omega
    · exact ⟨r, by rw [List.getElem?_set_ne e]; exact hr, h1, h2⟩
  · rw [if_neg c1]
    split
    · exact ⟨r, by rw [List.getElem?_append_left hil]; exact hr, h1, h2⟩
    · exact ⟨r, hr, h1, h2⟩
theorem Gone.dropped {l : List Row} {i : Nat} {g : Int} (h : Gone l i g) (x : Int) : Gone (dropL l x) i g := by
  obtain ⟨r, hr, h1, h2⟩ := h
  have hil := (List.getElem?_eq_some_iff.1 hr).1
  unfold dropL
  split
  · rename_i k e
    by_cases hk : k = i
    · subst hk
      refine ⟨_, List.getElem?_set_self hil, ?_, fun h => by cases h⟩
      rw [getD_of hr]; exact h1
    · exact ⟨r, by rw [List.getElem?_set_ne hk]; exact hr, h1, h2⟩
  · exact ⟨r, hr, h1, h2⟩
theorem Gone.not_made {m : Nat} {l : List Row} {i : Nat} {g : Int} (h : Gone l i g) (hm : l.length ≤ m) (hm4 : m ≤ 4096) (hg : 1 ≤ g ∧ g ≤ 65535) (hok : ∀ r ∈ l, 0 ≤ r.gen ∧ r.gen ≤ 65535) : mkE l m = 0 → mkH l m ≠ hdl (i + 1) g := by
  obtain ⟨r, hr, h1, h2⟩ := h
  have hil := (List.getElem?_eq_some_iff.1 hr).1
  have eh : hdl (i + 1) g = (i + 1) + 65536 * g := by unfold hdl; rw [if_neg (by omega)]
  unfold mkE mkH
  rw [eh]
  by_cases c1 : nextI l < l.length
  · rw [if_pos c1]
    intro _
    obtain ⟨r', hr', _, hg'⟩ := nextI_row c1
    rw [getD_of hr']
    have h0 := (hok r' (List.mem_of_getElem? hr')).1
    have e2 : hdl (nextI l + 1) (r'.gen + 1) = (nextI l + 1) + 65536 * (r'.gen + 1) := by unfold hdl; rw [if_neg (by omega)]
    rw [e2]
    intro e
    have : nextI l = i := by omega
    rw [this] at hr'
    rw [hr] at hr'
    cases hr'
    omega
  · rw [if_neg c1, if_neg c1]
    by_cases c2 : l.length < m
    · rw [if_pos c2, if_pos c2]
      intro _
      have e2 : hdl ((l.length : Int) + 1) 1 = (l.length + 1) + 65536 * 1 := by unfold hdl; rw [if_neg (by omega)]
      rw [e2]
      omega
    · rw [if_neg c2]
      intro h; cases h
theorem stale_loop2 {w0 : World} {p : Option Addr} {m i : Nat} {g : Int} {A : Option Addr} {n c : Nat} {cl : List CallV} {K : Value → World → Prop} (hi : i < 4096) (hg : 1 ≤ g ∧ g ≤ 65535) (hx : Cs w0 A (cl.flatMap CallV.cells)) (hn : n = cl.length) (hsz : n * 40 ≤ 140737488351232) (hok : ∀ x ∈ cl, CallOk x)
    (hK : ∀ w', Below w0.heap.size w0 w' → K (.bool true) w') : ∀ (d k : Nat) (w : World) (l : List Row) (F : Nat → Prop), k + d = 100 → Below w0.heap.size w0 w → TabC w w0.heap.size p m l F → OkT m l → Gone l i g →
    law12_HandleStale.l1 K (d + 1) A n c p (hdl (i + 1) g) k w := by
  intro d
  induction d with
  | zero =>
    intro k w l F hk hb hC ok hG
    rw [law12_HandleStale.l1_succ]
    refine cond_dec (fun _ => ?_) (fun _ => hK w hb)
    rw [decide_eq_false (by omega)]
    exact hK w hb
  | succ d ih =>
    intro k w l F hk hb hC ok hG
    rw [law12_HandleStale.l1_succ]
    refine cond_dec (fun hlt => ?_) (fun _ => hK w hb)
    rw [decide_eq_true (by omega)]
    have hxk : cl[k]? = some cl[k] := List.getElem?_eq_getElem (by omega)
    obtain ⟨a', rfl, c0, c1, c2, c3, c4⟩ := call_at (hx.below hb) hxk
    have hc := hok _ (List.getElem_mem (by omega : k < cl.length))
    have hu := hdl_u64 (i + 1) g
    have tail : ∀ (w' : World) (l' : List Row) (F' : Nat → Prop), Below w0.heap.size w0 w' → TabC w' w0.heap.size p m l' F' → OkT m l' → Gone l' i g → law12_HandleStale.p18 (law12_HandleStale.l1 K (d + 1)) K (some a') n c p (hdl (i + 1) g) k w' := by
      intro w' l' F' hb' hC' ok' hG'
      have hl' : l'.length ≤ 4096 := Nat.le_trans ok'.len ok'.m4
      have hr := hG'.noRow hi hg
      have eE : getE l' (hdl (i + 1) g) = 12 := by unfold getE; rw [hr]
      have eP : ∀ q, putL l' (hdl (i + 1) g) q = l' := fun q => by unfold putL; rw [hr]
      have eD : dropL l' (hdl (i + 1) g) = l' := by unfold dropL; rw [hr]
      refine handle_Table_Get_c hC' hl' ok'.gens hu.1 hu.2 ⟨_, _, _, rfl, ?_⟩
      rw [eE]
      refine condP_f (handle_Table_Put_c hC' hl' ok'.gens hu.1 hu.2 fun w2 hC2 k2 => ⟨_, rfl, ?_⟩)
      rw [eE]
      rw [eP] at hC2
      have b2 := hb'.trans ((Mv.of_kp k2).below (fun i hi => (hC'.lt hi).1) hb'.size)
      refine condP_f (handle_Table_Drop_c hC2 hl' ok'.gens hu.1 hu.2 fun w3 hC3 k3 => ⟨_, rfl, ?_⟩)
      rw [eE]
      rw [eD] at hC3
      have b3 := b2.trans ((Mv.of_kp k3).below (fun i hi => (hC2.lt hi).1) b2.size)
      show law12_HandleStale.l1 K (d + 1) (some a') n c p (hdl (i + 1) g) (IntKind.wrap .i64 ((k : Int) + 1)) w3
      rw [cst k (by omega)]
      exact ih (k + 1) w3 l' F' (by omega) b3 hC3 ok' hG'
    refine ⟨⟨by omega, by omega⟩, a', rfl, _, c0, cond_eq (fun k1 => ?_) (fun k1 => ?_)⟩
    · refine ⟨fun H => H = w.heap, rfl, ⟨by omega, by omega⟩, a', rfl, ⟨by omega, by omega⟩, a', rfl, _, held c3, _, held c4, ?_⟩
      refine handle_Table_Make_c hC hb.size ok.len ok.m4 ok.gens fun w2 F2 hC2 m2 => ⟨_, _, rfl, ?_⟩
      have b2 := hb.trans (m2.below (fun i hi => (hC.lt hi).1) hb.size)
      have t := tail w2 _ F2 b2 hC2 (ok.made _ _) (hG.made _ _)
      refine cond_eq (fun e0 => ?_) (fun _ => t)
      have hne := hG.not_made ok.len ok.m4 hg ok.gens e0
      have : (mkH l m == hdl (i + 1) g) = false := by simpa using hne
      rw [this]
      exact t
    · refine handle_Table_Live_c hC (Nat.le_trans ok.len ok.m4) fun A2 c2' w2 o2 b2 => ⟨_, _, _, rfl, ?_⟩
      have b2' := hb.trans (b2.mono hb.size)
      have hC2 := hC.below b2
      refine cond_dec (fun hpos => ?_) (fun _ => tail w2 l F b2' hC2 ok hG)
      obtain ⟨a3, e3, d0, d1, _⟩ := call_at (hx.below b2') hxk
      cases e3
      have hll := liveFrom_len l 0
      have hl4 := Nat.le_trans ok.len ok.m4
      have ew : IntKind.wrap .u64 ((liveFrom 0 l).length : Int) = (liveFrom 0 l).length := wrapu64_in (by omega) (by omega)
      have hw : 0 ≤ IntKind.wrap .u64 cl[k].n := by rw [wrapu64_eq]; omega
      have hr : 0 ≤ Int.tmod (IntKind.wrap .u64 cl[k].n) ((liveFrom 0 l).length : Int) ∧ Int.tmod (IntKind.wrap .u64 cl[k].n) ((liveFrom 0 l).length : Int) < (liveFrom 0 l).length := by
        rw [Int.tmod_eq_emod_of_nonneg hw]
        exact ⟨Int.emod_nonneg _ (by omega), Int.emod_lt_of_pos _ (by omega)⟩
      refine ⟨⟨by omega, by omega⟩, _, rfl, _, d1, ?_⟩
      rw [ew, wrap64_in (x := Int.tmod (IntKind.wrap .u64 cl[k].n) ((liveFrom 0 l).length : Int)) (by omega) (by omega)]
      obtain ⟨j, hj⟩ : ∃ j : Nat, Int.tmod (IntKind.wrap .u64 cl[k].n) ((liveFrom 0 l).length : Int) = j := ⟨(Int.tmod (IntKind.wrap .u64 cl[k].n) ((liveFrom 0 l).length : Int)).toNat, by omega⟩
      rw [hj] at hr ⊢
      have hxj : (liveFrom 0 l)[j]? = some (liveFrom 0 l)[j] := List.getElem?_eq_getElem (by omega)
      obtain ⟨x, rfl, hx'⟩ := (Cs.ofOwn o2).at (nums_at hxj)
      have hu2 := liveFrom_u64 l 0 _ (List.getElem_mem (by omega : j < (liveFrom 0 l).length))
      refine ⟨by omega, ⟨by omega, by omega⟩, x, rfl, _, hx', handle_Table_Drop_c hC2 hl4 ok.gens hu2.1 hu2.2 fun w3 hC3 k3 => ⟨_, rfl, ?_⟩⟩
      exact tail w3 _ F (b2'.trans ((Mv.of_kp k3).below (fun i hi => (hC2.lt hi).1) b2'.size)) hC3 (ok.dropped _) (hG.dropped _)
theorem stale_loop1 {w0 : World} {p : Option Addr} {m : Nat} {A B : Option Addr} {n c nb cb : Nat} {K : Value → World → Prop}
    (hK : ∀ w' l F, Below w0.heap.size w0 w' → TabC w' w0.heap.size p m l F → OkT m l → (n = 0 ∨ ∃ r ∈ l, r.live = true) → law12_HandleStale.p7 K A n c B nb cb p w') :
    ∀ (d k : Nat) (w : World) (l : List Row) (F : Nat → Prop), k + d = 50 → Below w0.heap.size w0 w → TabC w w0.heap.size p m l F → OkT m l → (k = 0 ∧ l = [] ∨ ∃ r ∈ l, r.live = true) →
    law12_HandleStale.l0 K (d + 1) A n c B nb cb p k w := by
  have fin : ∀ (k : Nat) (w : World) (l : List Row) (F : Nat → Prop), (¬ (k : Int) < n ∨ 0 < k) → Below w0.heap.size w0 w → TabC w w0.heap.size p m l F → OkT m l → (k = 0 ∧ l = [] ∨ ∃ r ∈ l, r.live = true) → law12_HandleStale.p7 K A n c B nb cb p w := fun k w l F h hb hC ok hl =>
    hK w l F hb hC ok (hl.imp (fun h' => by omega) id)
  intro d
  induction d with
  | zero =>
    intro k w l F hk hb hC ok hl
    rw [law12_HandleStale.l0_succ]
    refine cond_dec (fun _ => ?_) (fun h => fin k w l F (.inl h) hb hC ok hl)
    rw [decide_eq_false (by omega)]
    exact fin k w l F (.inr (by omega)) hb hC ok hl
  | succ d ih =>
    intro k w l F hk hb hC ok hl
    rw [law12_HandleStale.l0_succ]
    refine cond_dec (fun _ => ?_) (fun h => fin k w l F (.inl h) hb hC ok hl)
    rw [decide_eq_true (by omega)]
    refine handle_Table_Make_c hC hb.size ok.len ok.m4 ok.gens fun w2 F2 hC2 m2 => ⟨_, _, rfl, ?_⟩
    have b2 := hb.trans (m2.below (fun i hi => (hC.lt hi).1) hb.size)
    rw [cst k (by omega)]
    refine ih (k + 1) w2 _ F2 (by omega) b2 hC2 (ok.made _ _) (.inr ?_)
    unfold mkL
    by_cases c1 : nextI l < l.length
    · rw [if_pos c1]
      exact ⟨_, List.mem_of_getElem? (List.getElem?_set_self c1), rfl⟩
    · rw [if_neg c1]
      by_cases c2 : l.length < m
      · rw [if_pos c2]
        exact ⟨_, List.mem_append_right _ (List.mem_singleton.2 rfl), rfl⟩
      · rw [if_neg c2]
        rcases hl with ⟨_, rfl⟩ | hl
        · exact absurd ok.m0 c2
        · exact hl
theorem law_HandleStale (w : World) (most : Int) (hmost : (Lit.int .u8 most).wf = true) (A : Option Addr) (n c : Nat) (hx : RdSlice 40 5 RdCall w [.slice A n c]) (B : Option Addr) (nb cb : Nat) (hy : RdSlice 40 5 RdCall w [.slice B nb cb]) :
    CallsE Pg law12_HandleStale.N #[.int .u8 most, .slice A n c, .slice B nb cb] w (fun v w' => v = .bool true ∧ Below w.heap.size w w') := by
  obtain ⟨cl, hy, hnb, hsb, hok⟩ := list_of (f := CallV.cells) hy (fun cs h => call_of h)
  have hn : n * 40 ≤ 140737488351232 := by obtain ⟨_, _, _, _, e, _, h, _⟩ := hx; cases e; exact h
  refine law12_HandleStale.ok (law12_alive_c fun w1 b1 => ⟨_, rfl, ?_⟩)
  refine condP_nt ⟨by decide, ?_⟩
  obtain ⟨hm0, hm1⟩ := wf_u8 hmost
  obtain ⟨m, em, h1, h2⟩ := most_eq (k := 20) hm0 hm1 (by decide) (by decide)
  rw [em]
  refine handle_New_c h1 h2 fun w2 p F hC b2 => ⟨_, _, rfl, cond_ne (fun h => absurd rfl h) (fun _ => ⟨51, ?_⟩)⟩
  have b2' := b1.trans (b2.mono b1.size)
  refine stale_loop1 (w0 := w) (fun w3 l F3 b3 hC3 ok3 hlv => ?_) 50 0 w2 [] F (by omega) b2' (hC.base b1.size) (mkOk h1 h2) (.inl ⟨rfl, rfl⟩)
  have hl3 := Nat.le_trans ok3.len ok3.m4
  refine handle_Table_Live_c hC3 hl3 fun A4 c4 w4 o4 b4 => ⟨_, _, _, rfl, ?_⟩
  have b4' := b3.trans (b4.mono b3.size)
  have hll := liveFrom_len l 0
  refine cond_eq (fun h0 => ?_) (fun h0 => ?_)
  · refine ⟨?_, b4'⟩
    have hn0 : n = 0 := by
      rcases hlv with h | ⟨r, hr, hlive⟩
      · exact h
      · exfalso
        obtain ⟨k, hk⟩ := List.mem_iff_getElem?.1 hr
        have := (live_mem l 0 _ ok3.lives (by omega)).2 ⟨k, r, hk, hlive, rfl⟩
        have h1 : liveFrom 0 l = [] := List.eq_nil_of_length_eq_zero (by omega)
        rw [h1] at this
        cases this
    rw [hn0]; rfl
  · have hr : 0 ≤ Int.tmod (n : Int) ((liveFrom 0 l).length : Int) ∧ Int.tmod (n : Int) ((liveFrom 0 l).length : Int) < (liveFrom 0 l).length := by
      rw [Int.tmod_eq_emod_of_nonneg (by omega)]
      exact ⟨Int.emod_nonneg _ (by omega), Int.emod_lt_of_pos _ (by omega)⟩
    obtain ⟨j, hj⟩ : ∃ j : Nat, Int.tmod (n : Int) ((liveFrom 0 l).length : Int) = j := ⟨(Int.tmod (n : Int) ((liveFrom 0 l).length : Int)).toNat, by omega⟩
    unfold law12_HandleStale.p9
    rw [hj] at hr ⊢
    have hxj : (liveFrom 0 l)[j]? = some (liveFrom 0 l)[j] := List.getElem?_eq_getElem (by omega)
    obtain ⟨x, rfl, hx'⟩ := (Cs.ofOwn o4).at (nums_at hxj)
    have hmem := List.getElem_mem (by omega : j < (liveFrom 0 l).length)
    generalize (liveFrom 0 l)[j] = h at hmem hx'
    have hu := liveFrom_u64 l 0 _ hmem
    refine ⟨by omega, ⟨by omega, by omega⟩, x, rfl, _, hx', handle_Table_Drop_c (hC3.below b4) hl3 ok3.gens hu.1 hu.2 fun w5 hC5 k5 => ⟨_, rfl, ?_⟩⟩
    obtain ⟨i, hi⟩ := Option.isSome_iff_exists.1 ((rowAt_live ok3 hu).1 hmem)
    obtain ⟨r, hr', hil, hlv', hmod, hgen⟩ := rowAt_lt hi
    have hg := ok3.lives r (List.mem_of_getElem? hr') hlv'
    have eh : h = hdl (i + 1) r.gen := by unfold hdl; rw [if_neg (by omega)]; omega
    have eE : getE l h = 0 := by unfold getE; rw [hi]
    have eD : dropL l h = l.set i ⟨r.gen, false, 0, 0⟩ := by unfold dropL; rw [hi]; simp only [getD_of hr']
    rw [eE]
    refine cond_ne (fun h => absurd rfl h) (fun _ => ⟨101, ?_⟩)
    have ok5 := ok3.dropped h
    rw [eD] at hC5 ok5
    rw [eh]
    refine stale_loop2 (w0 := w) (by omega) hg hy hnb hsb hok (fun w' hb => ⟨rfl, hb⟩) 100 0 w5 _ F3 (by omega) (b4'.trans ((Mv.of_kp k5).below (fun i hi => (hC3.lt hi).1) b4'.size)) hC5 ok5 ?_
    exact ⟨_, List.getElem?_set_self hil, Int.le_refl _, fun h => by cases h⟩
/-! ### HandleOnce -/
def genRow (g : Int) : Row := ⟨imax 1 g, false, 0, 0⟩
theorem once_loop2 {L1 : Option Addr → Nat → Nat → Option Addr → Nat → Nat → Option Addr → Option Addr → Nat → Nat → Int → World → Prop} {w : World} {A B C : Option Addr} {n c nb cb cc : Nat} {hs : List Int} {p : Option Addr} {k h : Int} {K : Value → World → Prop} (hx : Cs w C (nums .u64 hs)) (hl : hs.length ≤ 100000) (hh : h ∉ hs)
    (hK : law12_HandleOnce.p26 L1 K A n c B nb cb p C hs.length cc k h w) : ∀ (d j : Nat), j + d = hs.length → law12_HandleOnce.l2 L1 K (d + 1) A n c B nb cb p C hs.length cc k h C hs.length cc hs.length j w := by
  intro d
  induction d with
  | zero =>
    intro j hj
    rw [law12_HandleOnce.l2_succ]
    exact cond_dec (fun h => by omega) (fun _ => hK)
  | succ d ih =>
    intro j hj
    rw [law12_HandleOnce.l2_succ]
    refine cond_dec (fun _ => ?_) (fun h => absurd h (by omega))
    have hxj : hs[j]? = some hs[j] := List.getElem?_eq_getElem (by omega)
    obtain ⟨a, rfl, c0⟩ := hx.at (nums_at hxj)
    refine ⟨⟨by omega, by omega⟩, a, rfl, _, c0, cond_eq (fun e => absurd (e ▸ List.getElem_mem (by omega)) hh) (fun _ => ?_)⟩
    rw [cst j (by omega)]
    exact ih (j + 1) (by omega)
/-- Each handle that was given names a row whose generation is no less. -/
def Given (l : List Row) (hs : List Int) : Prop := ∀ h ∈ hs, ∃ (i : Nat) (g : Int) (r : Row), h = (i + 1 : Int) + 65536 * g ∧ l[i]? = some r ∧ g ≤ r.gen ∧ i < 65535
/-- No row's generation is less than it was. -/
def Rose (l0 l : List Row) : Prop := ∀ (i : Nat) (r0 : Row), l0[i]? = some r0 → ∃ r, l[i]? = some r ∧ r0.gen ≤ r.gen
theorem Rose.refl (l : List Row) : Rose l l := fun i r h => ⟨r, h, Int.le_refl _⟩
theorem Rose.set {l0 l : List Row} (h : Rose l0 l) {i : Nat} {r y : Row} (hr : l[i]? = some r) (hy : r.gen ≤ y.gen) : Rose l0 (l.set i y) := fun j r0 h0 => by
  obtain ⟨r', hr', hg⟩ := h j r0 h0
  by_cases e : i = j
  · subst e
    rw [hr] at hr'
    cases hr'
    exact ⟨y, List.getElem?_set_self (List.getElem?_eq_some_iff.1 hr).1, by omega⟩
  · exact ⟨r', by rw [List.getElem?_set_ne e]; exact hr', hg⟩
theorem Given.set {l : List Row} {hs : List Int} (h : Given l hs) {i : Nat} {r y : Row} (hr : l[i]? = some r) (hy : r.gen ≤ y.gen) : Given (l.set i y) hs := fun x hx => by
  obtain ⟨j, g, r', e, hr', hg, hj⟩ := h x hx
  by_cases e2 : i = j
  · subst e2
    rw [hr] at hr'
    cases hr'
    exact ⟨i, g, y, e, List.getElem?_set_self (List.getElem?_eq_some_iff.1 hr).1, by omega, hj⟩
  · exact ⟨j, g, r', e, by rw [List.getElem?_set_ne e2]; exact hr', hg, hj⟩
theorem once_loop1 {w0 w5 : World} {p : Option Addr} {m : Nat} {A B : Option Addr} {n c nb cb : Nat} {cl : List CallV} {l0 : List Row} {K : Value → World → Prop} (hx : Cs w0 A (cl.flatMap CallV.cells)) (hn : n = cl.length) (hsz : n * 40 ≤ 140737488351232) (hok : ∀ x ∈ cl, CallOk x)
    (h05 : Below w0.heap.size w0 w5) (hB : Cs w5 B (l0.flatMap Row.cells)) (hnb : nb = l0.length) (hm : m = l0.length) (hK : ∀ w', Below w0.heap.size w0 w' → K (.bool true) w') :
    ∀ (d k : Nat) (w : World) (l : List Row) (F : Nat → Prop) (hs : List Int) (C : Option Addr) (cc : Nat), k + d = 150 → Below w5.heap.size w5 w → TabC w w5.heap.size p m l F → OkT m l → l.length = m → Rose l0 l → Given l hs → hs.length ≤ k →
      w.ownsRow w5.heap.size Ty.api_Handle 1 (.slice C hs.length cc) hs.length (nums .u64 hs) → (∀ g, (Value.slice C hs.length cc).ownBlock = some g → ¬ F g) → law12_HandleOnce.l1 K (d + 1) A n c B nb cb p C hs.length cc k w := by
  intro d
  induction d with
  | zero =>
    intro k w l F hs C cc hk hb hC ok hlm hro hgi hhl ho hd
    have fin : K (.bool true) w := hK w (h05.trans (hb.mono h05.size))
    rw [law12_HandleOnce.l1_succ]
    refine cond_dec (fun _ => ?_) (fun _ => fin)
    rw [decide_eq_false (by omega)]
    exact fin
  | succ d ih =>
    intro k w l F hs C cc hk hb hC ok hlm hro hgi hhl ho hd
    have hbw : Below w0.heap.size w0 w := h05.trans (hb.mono h05.size)
    rw [law12_HandleOnce.l1_succ]
    refine cond_dec (fun hlt => ?_) (fun _ => hK w hbw)
    rw [decide_eq_true (by omega)]
    have hxk : cl[k]? = some cl[k] := List.getElem?_eq_getElem (by omega)
    obtain ⟨a', rfl, c0, c1, c2, c3, c4⟩ := call_at (hx.below hbw) hxk
    have hc := hok _ (List.getElem_mem (by omega : k < cl.length))
    have hl4 := Nat.le_trans ok.len ok.m4
    refine ⟨⟨by omega, by omega⟩, a', rfl, _, c0, cond_ne (fun k1 => ?_) (fun k1 => ?_)⟩
    · refine handle_Table_Live_c hC hl4 fun A2 c2' w2 o2 b2 => ⟨_, _, _, rfl, ?_⟩
      have b2' := hb.trans (b2.mono hb.size)
      have hC2 := hC.below b2
      refine cond_dec (fun hpos => ?_) (fun _ => ?_)
      · obtain ⟨a3, e3, d0, d1, _⟩ := call_at (hx.below (h05.trans (b2'.mono h05.size))) hxk
        cases e3
        have hll := liveFrom_len l 0
        have ew : IntKind.wrap .u64 ((liveFrom 0 l).length : Int) = (liveFrom 0 l).length := wrapu64_in (by omega) (by omega)
        have hw : 0 ≤ IntKind.wrap .u64 cl[k].n := by rw [wrapu64_eq]; omega
        have hr : 0 ≤ Int.tmod (IntKind.wrap .u64 cl[k].n) ((liveFrom 0 l).length : Int) ∧ Int.tmod (IntKind.wrap .u64 cl[k].n) ((liveFrom 0 l).length : Int) < (liveFrom 0 l).length := by
          rw [Int.tmod_eq_emod_of_nonneg hw]
          exact ⟨Int.emod_nonneg _ (by omega), Int.emod_lt_of_pos _ (by omega)⟩
        refine ⟨⟨by omega, by omega⟩, _, rfl, _, d1, ?_⟩
        rw [ew, wrap64_in (x := Int.tmod (IntKind.wrap .u64 cl[k].n) ((liveFrom 0 l).length : Int)) (by omega) (by omega)]
        obtain ⟨j, hj⟩ : ∃ j : Nat, Int.tmod (IntKind.wrap .u64 cl[k].n) ((liveFrom 0 l).length : Int) = j := ⟨(Int.tmod (IntKind.wrap .u64 cl[k].n) ((liveFrom 0 l).length : Int)).toNat, by omega⟩
        rw [hj] at hr ⊢
        have hxj : (liveFrom 0 l)[j]? = some (liveFrom 0 l)[j] := List.getElem?_eq_getElem (by omega)
        obtain ⟨x, rfl, hx'⟩ := (Cs.ofOwn o2).at (nums_at hxj)
        have hmem := List.getElem_mem (by omega : j < (liveFrom 0 l).length)
        generalize (liveFrom 0 l)[j] = h at hmem hx'
        have hu2 := liveFrom_u64 l 0 _ hmem
        refine ⟨by omega, ⟨by omega, by omega⟩, x, rfl, _, hx', handle_Table_Drop_c hC2 hl4 ok.gens hu2.1 hu2.2 fun w3 hC3 k3 => ⟨_, rfl, ?_⟩⟩
        show law12_HandleOnce.l1 K (d + 1) (some a') n c B nb cb p C hs.length cc (IntKind.wrap .i64 ((k : Int) + 1)) w3
        rw [cst k (by omega)]
        obtain ⟨i, hi⟩ := Option.isSome_iff_exists.1 ((rowAt_live ok hu2).1 hmem)
        obtain ⟨r, hr', hil, hlv', hmod, hgen⟩ := rowAt_lt hi
        have eD : dropL l h = l.set i ⟨r.gen, false, 0, 0⟩ := by unfold dropL; rw [hi]; simp only [getD_of hr']
        have ok3 := ok.dropped h
        rw [eD] at hC3 ok3
        exact ih (k + 1) w3 _ F hs C cc (by omega) (b2'.trans ((Mv.of_kp k3).below (fun i hi => (hC2.lt hi).1) b2'.size)) hC3 ok3 (by simpa using hlm) (hro.set hr' (Int.le_refl _)) (hgi.set hr' (Int.le_refl _)) (by omega) (own_kp (own_below_kp ho b2) k3 hd) hd
      · show law12_HandleOnce.l1 K (d + 1) (some a') n c B nb cb p C hs.length cc (IntKind.wrap .i64 ((k : Int) + 1)) w2
        rw [cst k (by omega)]
        exact ih (k + 1) w2 l F hs C cc (by omega) b2' hC2 ok hlm hro hgi (by omega) (own_below_kp ho b2) hd
    · refine handle_Table_Full_c hC hl4 fun w2 b2 => ⟨_, rfl, ?_⟩
      have b2' := hb.trans (b2.mono hb.size)
      have hC2 := hC.below b2
      refine handle_Table_Make_c hC2 b2'.size ok.len ok.m4 ok.gens fun w3 F3 hC3 m3 => ⟨_, _, rfl, ?_⟩
      have b3 := b2'.trans (m3.below (fun i hi => (hC2.lt hi).1) b2'.size)
      have ok3 := ok.made (m := m) 0 0
      have ho3 := own_kp (own_below_kp ho b2) m3.kp hd
      have hd3 : ∀ g, (Value.slice C hs.length cc).ownBlock = some g → ¬ F3 g := fun g hg hf => by
        rcases m3.foot g hf with h | h
        · exact hd g hg h
        · have := (own_lt (own_below_kp ho b2) hg).2; omega
      rw [mkE_eq]
      by_cases hv : nextV l m < 0
      · rw [if_pos hv, decide_eq_true hv]
        have n1 : ¬ nextI l < l.length := fun h => by unfold nextV at hv; rw [if_pos h] at hv; omega
        have eL : mkL l m 0 0 = l := by unfold mkL; rw [if_neg n1, if_neg (by omega)]
        have eH : mkH l m = 0 := by unfold mkH; rw [if_neg n1, if_neg (by omega)]
        rw [eH]
        show law12_HandleOnce.l1 K (d + 1) (some a') n c B nb cb p C hs.length cc (IntKind.wrap .i64 ((k : Int) + 1)) w3
        rw [cst k (by omega)]
        rw [eL] at hC3
        exact ih (k + 1) w3 l F3 hs C cc (by omega) b3 hC3 ok hlm hro hgi (by omega) ho3 hd3
      · rw [if_neg hv, decide_eq_false hv]
        have n1 : nextI l < l.length := by
          unfold nextV at hv
          by_cases h : nextI l < l.length
          · exact h
          · rw [if_neg h, if_neg (by omega)] at hv; omega
        obtain ⟨r, hr, _, hg⟩ := nextI_row n1
        have hg0 := ok.gens r (List.mem_of_getElem? hr)
        have eL : mkL l m 0 0 = l.set (nextI l) ⟨r.gen + 1, true, 0, 0⟩ := by unfold mkL; rw [if_pos n1, getD_of hr]
        have eH : mkH l m = (nextI l + 1) + 65536 * (r.gen + 1) := by unfold mkH; rw [if_pos n1, getD_of hr]; unfold hdl; rw [if_neg (by omega)]
        rw [eL] at hC3 ok3
        have hu := mkH_u64 l m
        rw [eH] at hu ⊢
        obtain ⟨h0, h1⟩ := hu
        generalize hH : ((nextI l : Int) + 1) + 65536 * (r.gen + 1) = h at h0 h1
        refine condP_f (condP_f ?_)
        show law12_HandleOnce.p21 (law12_HandleOnce.l1 K (d + 1)) K (some a') n c B nb cb p C hs.length cc k h w3
        refine ⟨by decide, ?_⟩
        have e1 : Int.tmod h 65536 = nextI l + 1 := by rw [Int.tmod_eq_emod_of_nonneg h0]; omega
        have e2 : Int.tdiv h 65536 = r.gen + 1 := by rw [Int.tdiv_eq_ediv_of_nonneg h0]; omega
        rw [e1, wrap64_in (x := (nextI l : Int) + 1) (by omega) (by omega), wrap64_in (x := (nextI l : Int) + 1 - 1) (by omega) (by omega)]
        have e3 : (nextI l : Int) + 1 - 1 = nextI l := by omega
        rw [e3]
        refine cond_dec (fun h => absurd h (by omega)) (fun _ => cond_dec (fun h => absurd h (by omega)) (fun _ => ⟨by decide, ⟨by omega, by omega⟩, ?_⟩))
        have hx0 : l0[nextI l]? = some l0[nextI l] := List.getElem?_eq_getElem (by omega)
        obtain ⟨ab, rfl, y0, _⟩ := rows_at (hB.below b3) hx0
        obtain ⟨r', hr', hrise⟩ := hro _ _ hx0
        rw [hr] at hr'
        cases hr'
        refine ⟨ab, rfl, _, y0, ?_⟩
        rw [e2, wrapu64_in (x := r.gen + 1) (by omega) (by omega), wrap64_in (x := r.gen + 1) (by omega) (by omega)]
        refine cond_dec (fun h => absurd h (by omega)) (fun _ => ⟨by decide, ?_⟩)
        rw [decide_eq_false (by omega)]
        refine condP_f ⟨hs.length + 1, ?_⟩
        have hnot : h ∉ hs := fun hm => by
          obtain ⟨j, g, r', e, hr', hg', hj⟩ := hgi h hm
          have : j = nextI l := by omega
          subst this
          rw [hr] at hr'
          cases hr'
          omega
        refine once_loop2 (Cs.ofOwn ho3) (by omega) hnot (wlet_intro fun w4 h4 => ?_) hs.length 0 (by omega)
        have hal : Below w3.heap.size w3 w4 := by rw [h4]; exact (Below.refl _ _).alloc (Nat.le_refl _) _
        have hz : Blk w4 w3.heap.size Ty.api_Handle [.int .u64 h] := by rw [h4]; exact Blk.new w3 Ty.api_Handle _
        clear h4
        have b4 := b3.trans (hal.mono b3.size)
        have hC4 := hC3.below hal
        refine app_hdl (own_below_kp ho3 hal) hz (by omega) b4.size fun A' c' w6 ho6 hm6 => ⟨_, _, _, rfl, ?_⟩
        show law12_HandleOnce.l1 K (d + 1) (some a') n c (some ab) nb cb p A' (hs.length + 1) c' (IntKind.wrap .i64 ((k : Int) + 1)) w6
        rw [cst k (by omega)]
        have e5 : hs.length + 1 = (hs ++ [h]).length := by simp
        rw [e5] at ho6 ⊢
        have hil := (List.getElem?_eq_some_iff.1 hr).1
        refine ih (k + 1) w6 _ F3 (hs ++ [h]) A' c' (by omega) (b4.trans (hm6.kp.below b4.size fun i hi hs' => by have := (own_lt ho3 hs').1; omega)) (hC4.kp hm6.kp (fun i hi e => hd3 i e hi)) ok3 (by simpa using hlm) (hro.set hr (by simp only; omega)) (fun x hx => ?_) (by simp; omega) ho6 (fun g hg hf => ?_)
        · rcases List.mem_append.1 hx with hx | hx
          · exact hgi.set hr (y := ⟨r.gen + 1, true, 0, 0⟩) (by simp only; omega) x hx
          · rw [List.mem_singleton.1 hx]
            exact ⟨nextI l, r.gen + 1, _, hH.symm, List.getElem?_set_self hil, Int.le_refl _, by omega⟩
        · rw [← e5] at hg
          rcases hm6.foot g hg with h | h
          · exact hd3 g h hf
          · have := (hC4.lt hf).2; omega
theorem once_loop0 {w0 : World} {A B C : Option Addr} {n c nb cb : Nat} {gs : List Int} {K : Value → World → Prop} (hx : Cs w0 A (nums .u16 gs)) (hn : n = gs.length) (hl : n ≤ 20) (hg : ∀ g ∈ gs, 0 ≤ g ∧ g ≤ 65535)
    (hK : ∀ w' C cc, Below w0.heap.size w0 w' → w'.ownsRow w0.heap.size Ty.api_Row 4 (.slice C n cc) n ((gs.map genRow).flatMap Row.cells) → law12_HandleOnce.p6 K B nb cb C n cc w') :
    ∀ (d k : Nat) (w : World) (C : Option Addr) (cc : Nat), k + d = n → Below w0.heap.size w0 w → w.ownsRow w0.heap.size Ty.api_Row 4 (.slice C k cc) k (((gs.take k).map genRow).flatMap Row.cells) → law12_HandleOnce.l0 K (d + 1) B nb cb C k cc A n c n k w := by
  intro d
  induction d with
  | zero =>
    intro k w C cc hk hb ho
    obtain rfl : k = n := by omega
    rw [law12_HandleOnce.l0_succ]
    refine cond_dec (fun h => by omega) (fun _ => ?_)
    rw [List.take_of_length_le (by omega)] at ho
    exact hK w C cc hb ho
  | succ d ih =>
    intro k w C cc hk hb ho
    rw [law12_HandleOnce.l0_succ]
    refine cond_dec (fun _ => ?_) (fun h => absurd h (by omega))
    have hxk : gs[k]? = some gs[k] := List.getElem?_eq_getElem (by omega)
    obtain ⟨a, rfl, c0⟩ := (hx.below hb).at (nums_at hxk)
    have hg' := hg _ (List.getElem_mem (by omega : k < gs.length))
    refine ⟨⟨by omega, by omega⟩, a, rfl, _, c0, wlet_intro fun w1 h1 => ?_⟩
    rw [wrap64_in (x := gs[k]) (by omega) (by omega)] at h1
    have hal : Below w.heap.size w w1 := by rw [h1]; exact (Below.refl _ _).alloc (Nat.le_refl _) _
    have hz : Blk w1 w.heap.size Ty.api_Row (genRow gs[k]).cells := by rw [h1]; exact Blk.new w Ty.api_Row _
    clear h1
    have b1 := hb.trans (hal.mono hb.size)
    have ho1 := own_below_kp ho hal
    refine app_rows (m := 1) (r := [genRow gs[k]]) ho1 rfl (by simpa using Cs.of_blk0 hz) (by omega) b1.size fun A' c' w2 ho2 hm2 => ⟨_, _, _, rfl, ?_⟩
    rw [cst k (by omega)]
    refine ih (k + 1) w2 A' c' (by omega) (b1.trans (hm2.kp.below b1.size fun i hi e => by have := (own_lt ho1 e).1; omega)) ?_
    rw [take_snoc hxk, List.map_append]
    exact ho2
theorem law_HandleOnce (w : World) (A : Option Addr) (n c : Nat) (xs : List Int) (hx : Cs w A (nums .u16 xs)) (hn : n = xs.length) (hw : ∀ x ∈ xs, (Lit.int .u16 x).wf = true) (hz : n * 2 ≤ 140737488351232) (B : Option Addr) (nb cb : Nat) (hy : RdSlice 40 5 RdCall w [.slice B nb cb]) :
    CallsE Pg law12_HandleOnce.N #[.slice A n c, .slice B nb cb] w (fun v w' => v = .bool true ∧ Below w.heap.size w w') := by
  obtain ⟨cl, hy, hnb, hsb, hok⟩ := list_of (f := CallV.cells) hy (fun cs h => call_of h)
  refine law12_HandleOnce.ok (law12_alive_c fun w1 b1 => ⟨_, rfl, condP_nt ?_⟩)
  refine cond_eq (fun _ => ⟨rfl, b1⟩) (fun h0 => ?_)
  by_cases h20 : (20 : Int) < n
  · rw [decide_eq_true h20]; exact ⟨rfl, b1⟩
  rw [decide_eq_false h20]
  have hg : ∀ g ∈ xs, 0 ≤ g ∧ g ≤ 65535 := fun g hm => wf_u16 (hw g hm)
  refine condP_f ⟨n + 1, ?_⟩
  refine once_loop0 (C := none) (hx.below b1) hn (by omega) hg (fun w2 C cc b2 ho2 => ?_) n 0 w1 none 0 (by omega) (Below.refl _ _) (World.ownsRow_nil _ _ _ _)
  have b2' := b1.trans (b2.mono b1.size)
  have hgr : ∀ r ∈ xs.map genRow, 1 ≤ r.gen ∧ r.gen ≤ 65535 ∧ r.live = false ∧ r.kind = 0 ∧ r.place = 0 := fun r hr => by
    obtain ⟨g, hm, rfl⟩ := List.mem_map.1 hr
    have := hg g hm
    have e : (genRow g).gen = imax 1 g := rfl
    refine ⟨?_, ?_, rfl, rfl, rfl⟩ <;> rw [e] <;> unfold imax <;> split <;> omega
  have e0 : fromE n (xs.map genRow) = 0 := by
    unfold fromE
    rw [if_neg (by omega), if_neg]
    rintro (h | h | h)
    · rw [List.length_map] at h; omega
    · unfold lastZero at h
      split at h
      · rename_i r hr
        have := (hgr r (List.mem_of_getLast? hr)).1
        have := eq_of_beq h
        omega
      · cases h
    · have : (xs.map genRow).all Row.right = true := List.all_eq_true.2 fun r hr => by
        obtain ⟨g1, g2, g3, g4, g5⟩ := hgr r hr
        unfold Row.right
        rw [g3, g4, g5, if_neg (by decide)]
        simp
        omega
      rw [this] at h
      cases h
  obtain ⟨m1, m2, ok⟩ := fromE_ok e0
  refine handle_From_c (Cs.ofOwn ho2) (by simpa using hn) (by omega) (fun h => absurd e0 h) fun _ w3 p F hC b3 => ⟨_, _, rfl, ?_⟩
  have b3' := b2'.trans (b3.mono b2'.size)
  refine cond_ne (fun h => absurd rfl h) (fun _ => ⟨151, ?_⟩)
  rw [Int.toNat_natCast] at hC ok
  refine once_loop1 (w0 := w) (w5 := w2) (l0 := xs.map genRow) hy hnb hsb hok b2' (Cs.ofOwn ho2) (by simpa using hn) (by simpa using hn) (fun w' hb => ⟨rfl, hb⟩) 150 0 w3 _ F [] none 0 (by omega) b3 hC ok (by simpa using hn.symm) (Rose.refl _) (fun h hm => by cases hm) (Nat.le_refl _) (World.ownsRow_nil _ _ _ _) (fun g hg => by cases hg)

end Go.Proofs.Ytcpgflcbjcekeaa.C
