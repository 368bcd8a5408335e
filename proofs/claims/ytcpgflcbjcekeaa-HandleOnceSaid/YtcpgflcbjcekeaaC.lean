/-
  Parts of the proofs of this seat: what the functions compute. No condition beyond what each theorem states.
-/
import Derived.Test.YtcpgflcbjcekeaaF
import Derived.Test.YtcpgflcbjcekeaaRK
import Derived.Test.YtcpgflcbjcekeaaB
set_option linter.unusedVariables false
set_option linter.unusedSimpArgs false
set_option maxRecDepth 100000
namespace Go.Proofs.Ytcpgflcbjcekeaa.C
open Go Go.RowKit Go.Proofs.Ytcpgflcbjcekeaa Go.Proofs.Ytcpgflcbjcekeaa.Sh Go.Proofs.Ytcpgflcbjcekeaa.F Go.Proofs.Ytcpgflcbjcekeaa.R

/-! ### what the laws share -/
theorem wf_i64 {n : Int} (h : (Lit.int .i64 n).wf = true) : -9223372036854775808 ≤ n ∧ n ≤ 9223372036854775807 := by
  simp [Lit.wf, IntKind.min, IntKind.max, IntKind.bits, IntKind.signed] at h
  omega
theorem wf_u64 {n : Int} (h : (Lit.int .u64 n).wf = true) : U64 n := by
  simp [Lit.wf, IntKind.min, IntKind.max, IntKind.bits, IntKind.signed] at h
  exact ⟨by omega, by omega⟩
theorem wf_u8 {n : Int} (h : (Lit.int .u8 n).wf = true) : 0 ≤ n ∧ n ≤ 255 := by
  simp [Lit.wf, IntKind.min, IntKind.max, IntKind.bits, IntKind.signed] at h
  omega
theorem wf_u16 {n : Int} (h : (Lit.int .u16 n).wf = true) : 0 ≤ n ∧ n ≤ 65535 := by
  simp [Lit.wf, IntKind.min, IntKind.max, IntKind.bits, IntKind.signed] at h
  omega
def CallOk (c : CallV) : Prop := U64 c.hd ∧ -9223372036854775808 ≤ c.n ∧ c.n ≤ 9223372036854775807
abbrev RdCall := RdAgg [(1, RdInt .i64), (1, RdInt .i64), (1, RdInt .u64), (1, RdInt .i64), (1, RdInt .i64)]
abbrev RdRow := RdAgg [(1, RdInt .i64), (1, RdBool), (1, RdInt .i64), (1, RdInt .i64)]
theorem call_of {w : World} {cs : List Value} (h : RdCall w cs) : ∃ c : CallV, CallOk c ∧ cs = c.cells := by
  obtain ⟨_, _, rfl, _, ⟨n0, rfl, h0⟩, _, _, rfl, _, ⟨n1, rfl, h1⟩, _, _, rfl, _, ⟨n2, rfl, h2⟩, _, _, rfl, _, ⟨n3, rfl, h3⟩, _, _, rfl, _, ⟨n4, rfl, h4⟩, rfl⟩ := h
  exact ⟨⟨n0, n1, n2, n3, n4⟩, ⟨wf_u64 h2, wf_i64 h1⟩, rfl⟩
theorem row_of {w : World} {cs : List Value} (h : RdRow w cs) : ∃ r : Row, (-9223372036854775808 ≤ r.gen ∧ r.gen ≤ 9223372036854775807) ∧ cs = r.cells := by
  obtain ⟨_, _, rfl, _, ⟨n0, rfl, h0⟩, _, _, rfl, _, ⟨n1, rfl⟩, _, _, rfl, _, ⟨n2, rfl, h2⟩, _, _, rfl, _, ⟨n3, rfl, h3⟩, rfl⟩ := h
  exact ⟨⟨n0, n1, n2, n3⟩, wf_i64 h0, rfl⟩
theorem list_of {α : Type} {f : α → List Value} {Q : World → List Value → Prop} {R : α → Prop} {B m : Nat} {w : World} {A : Option Addr} {n c : Nat} (h : RdSlice B m Q w [.slice A n c]) (hq : ∀ cs, Q w cs → ∃ x, R x ∧ cs = f x) :
    ∃ l : List α, Cs w A (l.flatMap f) ∧ n = l.length ∧ n * B ≤ 140737488351232 ∧ ∀ x ∈ l, R x := by
  obtain ⟨A', n', c', rows, e, h1, h2, h3, h4, h5⟩ := h
  cases e
  obtain ⟨l, rfl, hl⟩ := exists_map (f := f) (Q := R) (fun r hr => hq r (h5 r hr).2)
  rw [List.length_map] at h3
  exact ⟨l, by rw [List.flatMap_def]; exact h4, h3.symm, h2, hl⟩
theorem call_at {w : World} {A : Option Addr} {l : List CallV} (h : Cs w A (l.flatMap CallV.cells)) {k : Nat} {r : CallV} (hk : l[k]? = some r) :
    ∃ a, A = some a ∧ w.cell? (a.add (k * 5)) = some (.int .i64 r.kind) ∧ w.cell? ((a.add (k * 5)).add 1) = some (.int .i64 r.n) ∧ w.cell? ((a.add (k * 5)).add 2) = some (.int .u64 r.hd) ∧ w.cell? ((a.add (k * 5)).add 3) = some (.int .i64 r.kind2) ∧ w.cell? ((a.add (k * 5)).add 4) = some (.int .i64 r.place) := by
  obtain ⟨a, e, hc⟩ := h.row CallV.cells_len hk (by decide)
  exact ⟨a, e, hc 0 _ rfl, hc 1 _ rfl, hc 2 _ rfl, hc 3 _ rfl, hc 4 _ rfl⟩
theorem law12_same_c {w : World} {b : Nat} {p q : Option Addr} {m : Nat} {l : List Row} {Fc Fr : Nat → Prop} {K : Value → World → Prop} (hC : TabC w b p m l Fc) (hR : TabR w b q m l Fr) (ok : OkT m l)
    (hK : ∀ w', Below w.heap.size w w' → K (.bool true) w') : CallsE Pg law12_same.N #[.pointer p, .pointer q] w K := by
  have hl : l.length ≤ 4096 := Nat.le_trans ok.len ok.m4
  refine law12_same.ok (handle_Table_Rows_c hC hl fun A1 c1 w1 o1 b1 => ⟨_, _, _, rfl, ?_⟩)
  refine ref12_Table_Rows_c (hR.below b1) ok.m4 ok.m0 ok.last (fun r hr => (ok.gens r hr).1) fun A2 c2 w2 o2 b2 => ⟨_, _, _, rfl, ?_⟩
  have b2' := b1.trans (b2.mono b1.size)
  refine ref12_Same_c (Cs.ofOwn (own_below_kp o1 b2)) (Cs.ofOwn o2) rfl rfl (by omega) ⟨_, rfl, condP_t ?_⟩
  refine handle_Table_Live_c (hC.below b2') hl fun A3 c3 w3 o3 b3 => ⟨_, _, _, rfl, ?_⟩
  have b3' := b2'.trans (b3.mono b2'.size)
  refine ref12_Table_Live_c (hR.below b3') ok.m4 fun A4 c4 w4 o4 b4 => ⟨_, _, _, rfl, ?_⟩
  have b4' := b3'.trans (b4.mono b3'.size)
  have hll := liveFrom_len l 0
  refine ref12_Handles_c (Cs.ofOwn (own_below_kp o3 b4)) (Cs.ofOwn o4) rfl rfl (by omega) ⟨_, rfl, condP_t ?_⟩
  refine handle_Table_Full_c (hC.below b4') hl fun w5 b5 => ⟨_, rfl, ?_⟩
  have b5' := b4'.trans (b5.mono b4'.size)
  refine ref12_Table_Full_c (hR.below b5') ok.m4 fun w6 b6 => ⟨_, rfl, ?_⟩
  show K (.bool (_ == _)) w6
  rw [beq_self_eq_true]
  exact hK w6 (b5'.trans (b6.mono b5'.size))
theorem mkOk {m : Nat} (h1 : 1 ≤ m) (h2 : m ≤ 4096) : OkT m [] := ⟨by simp, h2, h1, by simp, by simp, rfl⟩
theorem law12_alive_c {K : Value → World → Prop} {w : World} (h : ∀ w', Below w.heap.size w w' → K (.bool true) w') : CallsE Pg law12_alive.N #[] w K := by
  refine law12_alive.ok (handle_New_c (most := 2) (by decide) (by decide) fun w1 p F hT1 b1 => ⟨_, _, rfl, ?_⟩)
  refine cond_ne (fun h => absurd rfl h) (fun _ => ?_)
  have hs : p.isNone = false := by obtain ⟨t, A, c, rfl, _⟩ := hT1; rfl
  rw [hs]
  refine condP_f ?_
  have ok0 : OkT 2 [] := mkOk (by decide) (by decide)
  have ok1 := ok0.made 1 2
  have ok2 := ok1.made 3 4
  refine handle_Table_Make_c hT1 b1.size ok0.len ok0.m4 ok0.gens fun w2 F2 hT2 m2 => ⟨_, _, rfl, ?_⟩
  have f1 : ∀ i, F i → w.heap.size ≤ i := fun i hi => (hT1.lt hi).1
  have b2 := b1.trans (m2.below f1 b1.size)
  refine handle_Table_Make_c hT2 b2.size ok1.len ok1.m4 ok1.gens fun w3 F3 hT3 m3 => ⟨_, _, rfl, ?_⟩
  have b3 := b2.trans (m3.below (fun i hi => (hT2.lt hi).1) b2.size)
  refine handle_Table_Make_c hT3 b3.size ok2.len ok2.m4 ok2.gens fun w4 F4 hT4 m4 => ⟨_, _, rfl, ?_⟩
  have b4 := b3.trans (m4.below (fun i hi => (hT3.lt hi).1) b3.size)
  have ok3 := ok2.made 5 6
  refine handle_Table_Get_c hT4 (Nat.le_trans ok3.len (by decide)) ok3.gens (mkH_u64 _ _).1 (mkH_u64 _ _).2 ⟨_, _, _, rfl, ?_⟩
  refine cond_eq (fun _ => ?_) (fun h => absurd (by decide) h)
  refine cond_eq (fun _ => ?_) (fun h => absurd (by decide) h)
  refine cond_eq (fun _ => ?_) (fun h => absurd (by decide) h)
  refine cond_eq (fun _ => ?_) (fun h => absurd (by decide) h)
  refine cond_eq (fun _ => ?_) (fun h => absurd (by decide) h)
  refine handle_Table_Drop_c hT4 (Nat.le_trans ok3.len (by decide)) ok3.gens (mkH_u64 _ _).1 (mkH_u64 _ _).2 fun w5 hT5 k5 => ⟨_, rfl, ?_⟩
  have b5 := b4.trans ((Mv.of_kp k5).below (fun i hi => (hT4.lt hi).1) b4.size)
  refine cond_eq (fun _ => ?_) (fun h => absurd (by decide) h)
  refine handle_Of_c ⟨_, rfl, ?_⟩
  exact h w5 b5
/-- A table of each, for so many, and no handle made. -/
theorem start {w : World} {n : Nat} (h1 : 1 ≤ n) (h2 : n ≤ 4096) {K : Option Addr → Option Addr → World → Prop}
    (hK : ∀ p q w' Fc Fr, TabC w' w.heap.size p n [] Fc → TabR w' w.heap.size q n [] Fr → (∀ i, Fc i → ¬ Fr i) → Below w.heap.size w w' → K p q w') :
    CallsE Pg handle_New.N #[.int .i64 n] w (fun v4 w5 => ∃ (p6 : Option Addr) (n7 : Int), v4 = .tuple #[.pointer p6, .int .i64 n7] ∧ n7 = 0 ∧ CallsE Pg ref12_From.N #[.int .i64 n, .slice none 0 0] w5 (fun v8 w9 => ∃ (p10 : Option Addr) (n11 : Int), v8 = .tuple #[.pointer p10, .int .i64 n11] ∧ K p6 p10 w9)) := by
  refine handle_New_c h1 h2 fun w1 p Fc hC b1 => ⟨_, _, rfl, rfl, ?_⟩
  have e : fromE n [] = 0 := by unfold fromE; rw [if_neg (by omega), if_neg (by simp [lastZero])]
  refine ref12_From_c (l := []) (Cs.nil _ _) rfl (by decide) (fun h => absurd e h) fun _ w2 q Fr hR b2 => ⟨_, _, rfl, ?_⟩
  refine hK p q w2 Fc Fr (hC.below b2) (by simpa using hR.base b1.size) (fun i hc hr => ?_) (b1.trans (b2.mono b1.size))
  have := (hC.lt hc).2
  have := (hR.lt hr).1
  omega
theorem DS.start {w : World} {b n : Nat} {p q : Option Addr} {Fc Fr : Nat → Prop} (hC : TabC w b p n [] Fc) (hR : TabR w b q n [] Fr) (hd : ∀ i, Fc i → ¬ Fr i) (h1 : 1 ≤ n) (h2 : n ≤ 4096) (hb : b ≤ w.heap.size) {w' : World} (hw : w' = w.alloc (.cells #[.slice none 0 0] Ty.sl_api_Handle)) :
    DS w' b p q ⟨w.heap.size, 0, none⟩ n [] [] ∧ Below b w w' := by
  have hal : Below w.heap.size w w' := by rw [hw]; exact (Below.refl _ _).alloc (Nat.le_refl _) _
  have hB : Blk w' w.heap.size Ty.sl_api_Handle [.slice none 0 0] := by rw [hw]; exact Blk.new w Ty.sl_api_Handle _
  refine ⟨⟨Fc, Fr, fun i => i = w.heap.size ∨ (Value.slice none 0 0).ownBlock = some i, hC.below hal, hR.below hal, ⟨w.heap.size, none, 0, rfl, hb, hB, World.ownsRow_nil _ _ _ _, (fun g (hg : none = some g) => by cases hg), rfl⟩, hd, fun i hc hg => ?_, fun i hr hg => ?_, mkOk h1 h2, by simp⟩, hal.mono hb⟩
  · rcases hg with rfl | hg
    · have := (hC.lt hc).2; omega
    · cases hg
  · rcases hg with rfl | hg
    · have := (hR.lt hr).2; omega
    · cases hg
theorem most_eq {x k : Int} (h0 : 0 ≤ x) (h1 : x ≤ 255) (hk : 0 < k) (hk2 : k ≤ 4000) : ∃ n : Nat, IntKind.wrap .i64 (1 + (IntKind.wrap .i64 (Int.tmod x k))) = n ∧ 1 ≤ n ∧ n ≤ 4096 := by
  have h2 : 0 ≤ Int.tmod x k ∧ Int.tmod x k < k := by
    rw [Int.tmod_eq_emod_of_nonneg h0]
    exact ⟨Int.emod_nonneg _ (by omega), Int.emod_lt_of_pos _ hk⟩
  rw [wrap64_in (x := Int.tmod x k) (by omega) (by omega), wrap64_in (by omega) (by omega)]
  exact ⟨(1 + Int.tmod x k).toNat, by omega, by omega, by omega⟩
/-! ### HandlePlays -/
theorem plays_loop {w0 : World} {p q : Option Addr} {a : Addr} {m : Nat} {A : Option Addr} {n c : Nat} {cl : List CallV} {K : Value → World → Prop} (hx : Cs w0 A (cl.flatMap CallV.cells)) (hn : n = cl.length) (hsz : n * 40 ≤ 140737488351232) (hok : ∀ x ∈ cl, CallOk x)
    (hK : ∀ w', Below w0.heap.size w0 w' → K (.bool true) w') : ∀ (d k : Nat) (w : World) (l : List Row) (hs : List Int), k + d = 200 → Below w0.heap.size w0 w → DS w w0.heap.size p q a m l hs → hs.length ≤ k → law12_HandlePlays.l0 K (d + 1) A n c p q a k w := by
  intro d
  induction d with
  | zero =>
    intro k w l hs hk hb hS hl
    rw [law12_HandlePlays.l0_succ]
    obtain ⟨Fc, Fr, G, hC, hR, _, _, _, _, ok, _⟩ := hS
    have fin : law12_HandlePlays.p11 K p q w := law12_same_c hC hR ok fun w' hb' => ⟨_, rfl, hK w' (hb.trans (hb'.mono hb.size))⟩
    refine cond_dec (fun _ => ?_) (fun _ => fin)
    rw [decide_eq_false (by omega)]
    exact fin
  | succ d ih =>
    intro k w l hs hk hb hS hl
    rw [law12_HandlePlays.l0_succ]
    refine cond_dec (fun hlt => ?_) (fun _ => ?_)
    · rw [decide_eq_true (by omega)]
      have hxk : cl[k]? = some cl[k] := List.getElem?_eq_getElem (by omega)
      obtain ⟨a', rfl, c0, c1, c2, c3, c4⟩ := call_at (hx.below hb) hxk
      have hc := hok _ (List.getElem_mem (by omega : k < cl.length))
      refine ⟨⟨by omega, by omega⟩, a', rfl, _, c0, _, c1, _, c2, _, c3, _, c4, ?_⟩
      refine law12_do_c (c := cl[k]) hS hb.size (by omega) hc.1 hc.2 fun w' l' hs' hS' hl' hb' => ⟨_, rfl, condP_nt ?_⟩
      rw [cst k (by omega)]
      exact ih (k + 1) w' l' hs' (by omega) (hb.trans hb') hS' (by omega)
    · obtain ⟨Fc, Fr, G, hC, hR, _, _, _, _, ok, _⟩ := hS
      exact law12_same_c hC hR ok fun w' hb' => ⟨_, rfl, hK w' (hb.trans (hb'.mono hb.size))⟩
theorem law_HandlePlays (w : World) (most : Int) (hmost : (Lit.int .u8 most).wf = true) (A : Option Addr) (n c : Nat) (hx : RdSlice 40 5 RdCall w [.slice A n c]) :
    CallsE Pg law12_HandlePlays.N #[.int .u8 most, .slice A n c] w (fun v w' => v = .bool true ∧ Below w.heap.size w w') := by
  obtain ⟨cl, hx, hn, hsz, hok⟩ := list_of (f := CallV.cells) hx (fun cs h => call_of h)
  refine law12_HandlePlays.ok (law12_alive_c fun w1 b1 => ⟨_, rfl, ?_⟩)
  refine condP_nt ⟨by decide, ?_⟩
  obtain ⟨hm0, hm1⟩ := wf_u8 hmost
  obtain ⟨m, em, h1, h2⟩ := most_eq (k := 100) hm0 hm1 (by decide) (by decide)
  rw [em]
  refine (start h1 h2 (K := fun p q w' => law12_HandlePlays.p4 (fun v w1 => v = .bool true ∧ Below w.heap.size w w1) A n c p 0 q w') fun p q w2 Fc Fr hC hR hd b2 => ?_).mono ?_
  · refine cond_ne (fun h => absurd rfl h) (fun _ => ?_)
    have hs : p.isNone = false := by obtain ⟨t, A, c, rfl, _⟩ := hC; rfl
    rw [hs]
    refine condP_f (wlet_intro fun w3 h3 => ?_)
    have b2' := b1.trans (b2.mono b1.size)
    obtain ⟨hS, b3⟩ := DS.start (hC.base b1.size) (hR.base b1.size) hd h1 h2 b2'.size h3
    exact ⟨201, plays_loop (w0 := w) hx hn hsz hok (fun w' hb => ⟨rfl, hb⟩) 200 0 w3 [] [] (by omega) (b2'.trans b3) hS (Nat.le_refl _)⟩
  · rintro v w' ⟨p, n7, rfl, rfl, h⟩
    refine ⟨_, _, rfl, h.mono ?_⟩
    rintro v w' ⟨q, n11, rfl, h⟩
    exact ⟨_, _, rfl, h⟩
/-! ### HandleForged -/
theorem live_mem : ∀ (l : List Row) (i : Nat) (h : Int), (∀ r ∈ l, r.live = true → 1 ≤ r.gen ∧ r.gen ≤ 65535) → i + l.length ≤ 4096 → (h ∈ liveFrom i l ↔ ∃ (k : Nat) (r : Row), l[k]? = some r ∧ r.live = true ∧ h = (i + k + 1 : Int) + 65536 * r.gen)
  | [], i, h, _, _ => by simp [liveFrom]
  | r :: l, i, h, hg, hl => by
    have ih := live_mem l (i + 1) h (fun r' hr' => hg r' (List.mem_cons_of_mem _ hr')) (by simp at hl; omega)
    simp only [List.length_cons] at hl
    have key : (∃ (k : Nat) (r' : Row), (r :: l)[k]? = some r' ∧ r'.live = true ∧ h = (i + k + 1 : Int) + 65536 * r'.gen) ↔ (r.live = true ∧ h = (i + 1 : Int) + 65536 * r.gen) ∨ (∃ (k : Nat) (r' : Row), l[k]? = some r' ∧ r'.live = true ∧ h = (((i + 1 : Nat) : Int) + k + 1 : Int) + 65536 * r'.gen) := by
      constructor
      · rintro ⟨k, r', hk, hlv, e⟩
        cases k with
        | zero => simp at hk; subst hk; exact .inl ⟨hlv, by rw [e]; simp⟩
        | succ k => exact .inr ⟨k, r', by simpa using hk, hlv, by rw [e]; push_cast; omega⟩
      · rintro (⟨hlv, e⟩ | ⟨k, r', hk, hlv, e⟩)
        · exact ⟨0, r, rfl, hlv, by rw [e]; simp⟩
        · exact ⟨k + 1, r', by simpa using hk, hlv, by rw [e]; push_cast; omega⟩
    rw [key, liveFrom]
    by_cases hlv : r.live = true
    · rw [if_pos hlv, List.mem_cons, ih]
      have hgr := hg r (by simp) hlv
      have : hdl (i + 1) r.gen = (i + 1) + 65536 * r.gen := by unfold hdl; rw [if_neg (by omega)]
      rw [this]
      exact or_congr ⟨fun h => ⟨hlv, h⟩, fun h => h.2⟩ Iff.rfl
    · rw [if_neg hlv, ih]
      exact ⟨.inr, fun h => h.resolve_left fun h => hlv h.1⟩
theorem rowAt_live {m : Nat} {l : List Row} (ok : OkT m l) {h : Int} (hu : U64 h) : h ∈ liveFrom 0 l ↔ (rowAt l h).isSome = true := by
  have hl : l.length ≤ 4096 := Nat.le_trans ok.len ok.m4
  rw [live_mem l 0 h ok.lives (by omega)]
  constructor
  · rintro ⟨k, r, hk, hlv, e⟩
    have hkl := (List.getElem?_eq_some_iff.1 hk).1
    have hg := ok.lives r (List.mem_of_getElem? hk) hlv
    have := (rowAt_iff (h := h) hk (by omega) (ok.lives r (List.mem_of_getElem? hk))).1 ⟨hlv, by unfold hdl; rw [if_neg (by omega)]; rw [e]; simp⟩
    rw [this]; rfl
  · intro hs
    obtain ⟨k, hk⟩ := Option.isSome_iff_exists.1 hs
    obtain ⟨r, hr, hkl, hlv, hm, hg⟩ := rowAt_lt hk
    refine ⟨k, r, hr, hlv, ?_⟩
    simp only [Int.natCast_zero, Int.zero_add]
    omega
theorem forged_loop2 {w : World} {A : Option Addr} {n c : Nat} {hs : List Int} {h : Int} {p : Option Addr} {K : Value → World → Prop} (hx : Cs w A (nums .u64 hs)) (hn : n = hs.length) (hl : n ≤ 100000)
    (hK : law12_HandleForged.p16 K h p (hs.any (· == h)) w) : ∀ (d k : Nat), k + d = n → law12_HandleForged.l1 K (d + 1) h p ((hs.take k).any (· == h)) A n c n k w := by
  intro d
  induction d with
  | zero =>
    intro k hk
    rw [law12_HandleForged.l1_succ]
    show condP (decide ((k : Int) < _)) _ _
    refine cond_dec (fun h => by omega) (fun _ => ?_)
    rw [List.take_of_length_le (by omega)]
    exact hK
  | succ d ih =>
    intro k hk
    rw [law12_HandleForged.l1_succ]
    show condP (decide ((k : Int) < _)) _ _
    refine cond_dec (fun _ => ?_) (fun h => absurd h (by omega))
    have hxk : hs[k]? = some hs[k] := List.getElem?_eq_getElem (by omega)
    obtain ⟨a, rfl, c0⟩ := hx.at (nums_at hxk)
    have e : (hs.take (k + 1)).any (· == h) = ((hs.take k).any (· == h) || hs[k] == h) := by
      rw [take_snoc hxk, List.any_append]; simp
    have next := ih (k + 1) (by omega)
    rw [e] at next
    refine ⟨⟨by omega, by omega⟩, a, rfl, _, c0, ?_⟩
    cases hv : (hs.take k).any (· == h) with
    | true =>
      rw [hv, Bool.true_or] at next
      show law12_HandleForged.l1 K (d + 1) h p true (some a) n c n (IntKind.wrap .i64 ((k : Int) + 1)) w
      rw [cst k (by omega)]
      exact next
    | false =>
      rw [hv, Bool.false_or] at next
      show law12_HandleForged.l1 K (d + 1) h p (hs[k] == h) (some a) n c n (IntKind.wrap .i64 ((k : Int) + 1)) w
      rw [cst k (by omega)]
      exact next
theorem forged_end {w : World} {b : Nat} {p : Option Addr} {m : Nat} {l : List Row} {F : Nat → Prop} {h : Int} {K : Value → World → Prop} (hC : TabC w b p m l F) (ok : OkT m l) (hu : U64 h) (hK : ∀ w', Below w.heap.size w w' → K (.bool true) w') : law12_HandleForged.p10 K h p w := by
  have hl : l.length ≤ 4096 := Nat.le_trans ok.len ok.m4
  refine handle_Table_Live_c hC hl fun A c w1 o1 b1 => ⟨_, _, _, rfl, (liveFrom 0 l).length + 1, ?_⟩
  have hll := liveFrom_len l 0
  have hC1 := hC.below b1
  refine forged_loop2 (hs := liveFrom 0 l) (Cs.ofOwn o1) rfl (by omega) ?_ _ 0 (by omega)
  refine handle_Table_Get_c hC1 hl ok.gens hu.1 hu.2 ⟨_, _, _, rfl, ?_⟩
  have e := rowAt_live ok hu
  have ea : (liveFrom 0 l).any (· == h) = (rowAt l h).isSome := by
    rw [Bool.eq_iff_iff, ← e]
    simp
  rw [ea]
  unfold getE
  cases rowAt l h with
  | none => exact hK w1 b1
  | some i => exact hK w1 b1
theorem forged_loop {w0 : World} {p q : Option Addr} {a : Addr} {m : Nat} {A : Option Addr} {n c : Nat} {cl : List CallV} {h : Int} {K : Value → World → Prop} (hu : U64 h) (hx : Cs w0 A (cl.flatMap CallV.cells)) (hn : n = cl.length) (hsz : n * 40 ≤ 140737488351232) (hok : ∀ x ∈ cl, CallOk x)
    (hK : ∀ w', Below w0.heap.size w0 w' → K (.bool true) w') : ∀ (d k : Nat) (w : World) (l : List Row) (hs : List Int), k + d = 100 → Below w0.heap.size w0 w → DS w w0.heap.size p q a m l hs → hs.length ≤ k → law12_HandleForged.l0 K (d + 1) A n c h p q a k w := by
  intro d
  induction d with
  | zero =>
    intro k w l hs hk hb hS hl
    rw [law12_HandleForged.l0_succ]
    obtain ⟨Fc, Fr, G, hC, hR, _, _, _, _, ok, _⟩ := hS
    have fin : law12_HandleForged.p10 K h p w := forged_end hC ok hu fun w' hb' => hK w' (hb.trans (hb'.mono hb.size))
    refine cond_dec (fun _ => ?_) (fun _ => fin)
    rw [decide_eq_false (by omega)]
    exact fin
  | succ d ih =>
    intro k w l hs hk hb hS hl
    rw [law12_HandleForged.l0_succ]
    refine cond_dec (fun hlt => ?_) (fun _ => ?_)
    · rw [decide_eq_true (by omega)]
      have hxk : cl[k]? = some cl[k] := List.getElem?_eq_getElem (by omega)
      obtain ⟨a', rfl, c0, c1, c2, c3, c4⟩ := call_at (hx.below hb) hxk
      have hc := hok _ (List.getElem_mem (by omega : k < cl.length))
      refine ⟨⟨by omega, by omega⟩, a', rfl, _, c0, _, c1, _, c2, _, c3, _, c4, ?_⟩
      refine law12_do_c (c := cl[k]) hS hb.size (by omega) hc.1 hc.2 fun w' l' hs' hS' hl' hb' => ⟨_, rfl, condP_nt ?_⟩
      rw [cst k (by omega)]
      exact ih (k + 1) w' l' hs' (by omega) (hb.trans hb') hS' (by omega)
    · obtain ⟨Fc, Fr, G, hC, hR, _, _, _, _, ok, _⟩ := hS
      exact forged_end hC ok hu fun w' hb' => hK w' (hb.trans (hb'.mono hb.size))
theorem law_HandleForged (w : World) (most : Int) (hmost : (Lit.int .u8 most).wf = true) (A : Option Addr) (n c : Nat) (hx : RdSlice 40 5 RdCall w [.slice A n c]) (h : Int) (hh : (Lit.int .u64 h).wf = true) :
    CallsE Pg law12_HandleForged.N #[.int .u8 most, .slice A n c, .int .u64 h] w (fun v w' => v = .bool true ∧ Below w.heap.size w w') := by
  obtain ⟨cl, hx, hn, hsz, hok⟩ := list_of (f := CallV.cells) hx (fun cs h => call_of h)
  refine law12_HandleForged.ok (law12_alive_c fun w1 b1 => ⟨_, rfl, ?_⟩)
  refine condP_nt ⟨by decide, ?_⟩
  obtain ⟨hm0, hm1⟩ := wf_u8 hmost
  obtain ⟨m, em, h1, h2⟩ := most_eq (k := 100) hm0 hm1 (by decide) (by decide)
  rw [em]
  refine (start h1 h2 (K := fun p q w' => law12_HandleForged.p4 (fun v w1 => v = .bool true ∧ Below w.heap.size w w1) A n c h p 0 q w') fun p q w2 Fc Fr hC hR hd b2 => ?_).mono ?_
  · refine cond_ne (fun h => absurd rfl h) (fun _ => wlet_intro fun w3 h3 => ?_)
    have b2' := b1.trans (b2.mono b1.size)
    obtain ⟨hS, b3⟩ := DS.start (hC.base b1.size) (hR.base b1.size) hd h1 h2 b2'.size h3
    exact ⟨101, forged_loop (w0 := w) (wf_u64 hh) hx hn hsz hok (fun w' hb => ⟨rfl, hb⟩) 100 0 w3 [] [] (by omega) (b2'.trans b3) hS (Nat.le_refl _)⟩
  · rintro v w' ⟨p, n7, rfl, rfl, h⟩
    refine ⟨_, _, rfl, h.mono ?_⟩
    rintro v w' ⟨q, n11, rfl, h⟩
    exact ⟨_, _, rfl, h⟩
/-! ### HandleNil -/
theorem law_HandleNil (w : World) (h : Int) (hh : (Lit.int .u64 h).wf = true) (n : Int) (hn : (Lit.int .i64 n).wf = true) : CallsE Pg law12_HandleNil.N #[.int .u64 h, .int .i64 n] w (fun v w' => v = .bool true ∧ Below w.heap.size w w') := by
  have row : ∀ (w : World) (K : Value → World → Prop), K (.tuple #[.pointer none, .int .i64 1]) w → CallsE Pg handle_Table_row.N #[.pointer none, .int .u64 h] w K := fun w K hk => handle_Table_row.ok (condP_t hk)
  refine law12_HandleNil.ok (handle_Table_Make.ok (condP_t ⟨_, _, rfl, ?_⟩))
  refine handle_Table_Get.ok (row _ _ ⟨_, _, rfl, ?_⟩)
  refine cond_ne (fun _ => ⟨_, _, _, rfl, ?_⟩) (fun h => absurd h (by decide))
  refine law12_alive_c fun w1 b1 => ⟨_, rfl, ?_⟩
  refine condP_t (condP_t (condP_t (condP_t (condP_t (condP_t ?_)))))
  refine handle_Table_Put.ok (row _ _ ⟨_, _, rfl, ?_⟩)
  refine cond_eq (fun h => absurd h (by decide)) (fun _ => ⟨_, rfl, condP_t ?_⟩)
  refine handle_Table_Drop.ok (row _ _ ⟨_, _, rfl, ?_⟩)
  refine cond_eq (fun h => absurd h (by decide)) (fun _ => ⟨_, rfl, condP_t ?_⟩)
  have rows : ∀ (w : World) (K : Value → World → Prop), K (.slice none 0 0) w → CallsE Pg handle_Table_Rows.N #[.pointer none] w K := fun w K hk => handle_Table_Rows.ok (condP_t hk)
  refine rows _ _ ⟨_, _, _, rfl, ?_⟩
  refine handle_Table_Live.ok (rows _ _ ⟨_, _, _, rfl, 1, ?_⟩)
  rw [handle_Table_Live.l0_succ]
  refine condP_f ⟨_, _, _, rfl, ?_⟩
  refine cond_eq (fun _ => ?_) (fun h => absurd (by decide) h)
  exact handle_Table_Full.ok (condP_t ⟨_, rfl, rfl, b1⟩)
/-! ### HandleOf -/
theorem hdl_inj {i g j k : Int} (h1 : hdl i g ≠ 0) (h2 : hdl j k ≠ 0) : hdl i g = hdl j k ↔ i = j ∧ g = k := by
  unfold hdl at h1 h2 ⊢
  by_cases c1 : i < 1 ∨ 4096 < i ∨ g < 1 ∨ 65535 < g
  · rw [if_pos c1] at h1; exact absurd rfl h1
  by_cases c2 : j < 1 ∨ 4096 < j ∨ k < 1 ∨ 65535 < k
  · rw [if_pos c2] at h2; exact absurd rfl h2
  rw [if_neg c1, if_neg c2]
  omega
theorem law_HandleOf (w : World) (cs0 : List Value) (h0 : RdAgg (List.replicate 2 (1, RdInt .i64)) w cs0) (cs1 : List Value) (h1 : RdAgg (List.replicate 2 (1, RdInt .i64)) w cs1) : CallsE Pg law12_HandleOf.N #[.agg ⟨cs0⟩, .agg ⟨cs1⟩] w (fun v w' => v = .bool true ∧ Below w.heap.size w w') := by
  obtain ⟨_, _, rfl, _, ⟨a0, rfl, _⟩, _, _, rfl, _, ⟨a1, rfl, _⟩, rfl⟩ := h0
  obtain ⟨_, _, rfl, _, ⟨b0, rfl, _⟩, _, _, rfl, _, ⟨b1, rfl, _⟩, rfl⟩ := h1
  refine law12_HandleOf.ok (q0_0 := a0) (q0_1 := a1) (q1_0 := b0) (q1_1 := b1) (wlet_intro fun w1 e1 => wlet_intro fun w2 e2 => ?_)
  have hA1 : Blk w1 w.heap.size Ty.a2_int [.int .i64 a0, .int .i64 a1] := by rw [e1]; exact Blk.new w _ _
  have hal1 : Below w.heap.size w w1 := by rw [e1]; exact (Below.refl _ _).alloc (Nat.le_refl _) _
  have hB2 : Blk w2 w1.heap.size Ty.a2_int [.int .i64 b0, .int .i64 b1] := by rw [e2]; exact Blk.new w1 _ _
  have hal2 : Below w1.heap.size w1 w2 := by rw [e2]; exact (Below.refl _ _).alloc (Nat.le_refl _) _
  have hA2 := hA1.kp (Kp.of_below hal2) id
  clear e1 e2
  refine law12_alive_c fun w3 b3 => ⟨_, rfl, condP_nt ?_⟩
  have hb := hal1.trans ((hal2.mono hal1.size).trans (b3.mono (Nat.le_trans hal1.size hal2.size)))
  have hA := hA2.kp (Kp.of_below b3) id
  have hB := hB2.kp (Kp.of_below b3) id
  have x0 := hA.cell' (j := 0) rfl
  have x1 := hA.cell' (j := 1) rfl
  have y0 := hB.cell' (j := 0) rfl
  have y1 := hB.cell' (j := 1) rfl
  refine ⟨fun H => H = w3.heap, rfl, ⟨by decide, by decide⟩, ⟨by decide, by decide⟩, ⟨by decide, by decide⟩, ⟨by decide, by decide⟩, _, held x0, _, held x1, _, held y0, _, held y1, ?_⟩
  refine handle_Of_c ⟨_, rfl, rfl, handle_Of_c ⟨_, rfl, rfl, ⟨by decide, by decide⟩, _, x0, ⟨by decide, by decide⟩, _, x1, ?_⟩⟩
  refine ref12_Of_c ⟨_, rfl, cond_ne (fun h => absurd rfl h) (fun _ => ⟨⟨by decide, by decide⟩, _, y0, ⟨by decide, by decide⟩, _, y1, ?_⟩)⟩
  refine ref12_Of_c ⟨_, rfl, ?_⟩
  have ne : (hdl b0 b1 != hdl b0 b1) = false := by simp
  rw [ne]
  refine condP_f ?_
  refine cond_eq (fun _ => ⟨rfl, hb⟩) (fun g1 => cond_eq (fun _ => ⟨rfl, hb⟩) (fun g2 => ⟨_, x0, _, x1, _, y0, _, y1, ?_⟩))
  have hi : Pg.underlying Ty.int = some (.int .i64) := by kernel_rfl
  have hu : Pg.underlying Ty.a2_int = some (.array 2 Ty.int) := by kernel_rfl
  refine ⟨_, (aggEq_array2 hu (by kernel_rfl) (by kernel_rfl) (.int hi) (.int hi)).1, ?_⟩
  have e : (hdl a0 a1 == hdl b0 b1) = (a0 == b0 && a1 == b1) := by
    rw [Bool.eq_iff_iff]
    simp only [beq_iff_eq, Bool.and_eq_true]
    exact hdl_inj g1 g2
  show _ = Value.bool true ∧ _
  rw [e, beq_self_eq_true]
  exact ⟨rfl, hb⟩
/-! ### HandleFrom -/
theorem right_ok {r : Row} (h : r.right = true) : (0 ≤ r.gen ∧ r.gen ≤ 65535) ∧ (r.live = true → 1 ≤ r.gen ∧ r.gen ≤ 65535) := by
  unfold Row.right at h
  cases hl : r.live with
  | true => rw [hl, if_pos rfl] at h; simp at h; omega
  | false => rw [hl, if_neg (by decide)] at h; simp at h; exact ⟨by omega, fun h => by cases h⟩
theorem fromE_ok {most : Int} {l : List Row} (h : fromE most l = 0) : 1 ≤ most ∧ most ≤ 4096 ∧ OkT most.toNat l := by
  unfold fromE at h
  by_cases h1 : most < 1 ∨ 4096 < most
  · rw [if_pos h1] at h; cases h
  rw [if_neg h1] at h
  by_cases h2 : most < l.length ∨ lastZero l = true ∨ l.all Row.right = false
  · rw [if_pos h2] at h; cases h
  have hl : ¬ most < l.length := fun h => h2 (.inl h)
  have hz : lastZero l = false := by
    cases hz : lastZero l with
    | true => exact absurd (.inr (.inl hz)) h2
    | false => rfl
  have hr : l.all Row.right = true := by
    cases hr : l.all Row.right with
    | false => exact absurd (.inr (.inr hr)) h2
    | true => rfl
  have hr' := List.all_eq_true.1 hr
  exact ⟨by omega, by omega, by omega, by omega, by omega, fun r hm => (right_ok (hr' r hm)).1, fun r hm => (right_ok (hr' r hm)).2, hz⟩
theorem from_zero {w0 : World} {p q : Option Addr} {A B C : Option Addr} {n c d nb cb : Nat} {b : Nat} {K : Value → World → Prop} (hb : b ≤ w0.heap.size) (hn : n ≤ 1000000000000000)
    (hK : ∀ w', Kp (fun i => A.map (·.block) = some i) w0 w' → law12_HandleFrom.p9 K B n c C nb cb p q w') : ∀ (j k : Nat) (w : World) (L : List Row), k + j = n → Kp (fun i => A.map (·.block) = some i) w0 w → w.ownsRow b Ty.api_Row 4 (.slice A n d) n (L.flatMap Row.cells) → L.length = n →
    law12_HandleFrom.l0 K (j + 1) B n c C nb cb A n d p q n k w := by
  intro j
  induction j with
  | zero =>
    intro k w L hk hkp ho hL
    rw [law12_HandleFrom.l0_succ]
    exact cond_dec (fun h => by omega) (fun _ => hK w hkp)
  | succ j ih =>
    intro k w L hk hkp ho hL
    rw [law12_HandleFrom.l0_succ]
    refine cond_dec (fun _ => ?_) (fun h => absurd h (by omega))
    have hxk : L[k]? = some L[k] := List.getElem?_eq_getElem (by omega)
    obtain ⟨a, rfl, _⟩ := rows_at (Cs.ofOwn ho) hxk
    refine ⟨⟨by omega, by omega⟩, a, rfl, ?_⟩
    refine own_stores (m := 4) (k := k) (f := Row.cells) (x := L[k]) (y := zeroRow) (vs := [_, _, _, _]) (i := 0) ho Row.cells_len hxk (Nat.le_refl 4) rfl fun w1 ho1 hk1 _ => ?_
    rw [cst k (by omega)]
    exact ih (k + 1) w1 (L.set k zeroRow) (by omega) (hkp.trans hk1 (fun _ _ h => h) (fun i _ e => by rw [e]; rfl)) ho1 (by simpa using hL)
theorem from_plays {w0 : World} {p q : Option Addr} {a : Addr} {m : Nat} {A : Option Addr} {n c : Nat} {cl : List CallV} {K : Value → World → Prop} (hx : Cs w0 A (cl.flatMap CallV.cells)) (hn : n = cl.length) (hsz : n * 40 ≤ 140737488351232) (hok : ∀ x ∈ cl, CallOk x)
    (hK : ∀ w', Below w0.heap.size w0 w' → K (.bool true) w') : ∀ (d k : Nat) (w : World) (l : List Row) (hs : List Int), k + d = 60 → Below w0.heap.size w0 w → DS w w0.heap.size p q a m l hs → hs.length ≤ 4096 + k → law12_HandleFrom.l1 K (d + 1) A n c p q true a k w := by
  intro d
  induction d with
  | zero =>
    intro k w l hs hk hb hS hl
    rw [law12_HandleFrom.l1_succ]
    obtain ⟨Fc, Fr, G, hC, hR, _, _, _, _, ok, _⟩ := hS
    have fin : law12_HandleFrom.p15 K p q true w := law12_same_c hC hR ok fun w' hb' => ⟨_, rfl, hK w' (hb.trans (hb'.mono hb.size))⟩
    refine cond_dec (fun _ => ?_) (fun _ => fin)
    exact cond_dec (fun h => by omega) (fun _ => fin)
  | succ d ih =>
    intro k w l hs hk hb hS hl
    rw [law12_HandleFrom.l1_succ]
    refine cond_dec (fun hlt => ?_) (fun _ => ?_)
    · refine cond_dec (fun _ => ?_) (fun h => absurd h (by omega))
      have hxk : cl[k]? = some cl[k] := List.getElem?_eq_getElem (by omega)
      obtain ⟨a', rfl, c0, c1, c2, c3, c4⟩ := call_at (hx.below hb) hxk
      have hc := hok _ (List.getElem_mem (by omega : k < cl.length))
      refine ⟨⟨by omega, by omega⟩, a', rfl, _, c0, _, c1, _, c2, _, c3, _, c4, ?_⟩
      refine law12_do_c (c := cl[k]) hS hb.size (by omega) hc.1 hc.2 fun w' l' hs' hS' hl' hb' => ⟨_, rfl, ?_⟩
      rw [cst k (by omega)]
      exact ih (k + 1) w' l' hs' (by omega) (hb.trans hb') hS' (by omega)
    · obtain ⟨Fc, Fr, G, hC, hR, _, _, _, _, ok, _⟩ := hS
      exact law12_same_c hC hR ok fun w' hb' => ⟨_, rfl, hK w' (hb.trans (hb'.mono hb.size))⟩
theorem liveFrom_u64 : ∀ (l : List Row) (i : Nat), ∀ h ∈ liveFrom i l, U64 h
  | [], _, h, hm => by simp [liveFrom] at hm
  | r :: l, i, h, hm => by
    rw [liveFrom] at hm
    split at hm
    · rcases List.mem_cons.1 hm with rfl | hm
      · exact hdl_u64 _ _
      · exact liveFrom_u64 l (i + 1) h hm
    · exact liveFrom_u64 l (i + 1) h hm
theorem law_HandleFrom (w : World) (most : Int) (hmost : (Lit.int .i64 most).wf = true) (A : Option Addr) (n c : Nat) (hx : RdSlice 32 4 RdRow w [.slice A n c]) (B : Option Addr) (nb cb : Nat) (hy : RdSlice 40 5 RdCall w [.slice B nb cb]) :
    CallsE Pg law12_HandleFrom.N #[.int .i64 most, .slice A n c, .slice B nb cb] w (fun v w' => v = .bool true ∧ Below w.heap.size w w') := by
  obtain ⟨l, hx, hn, hsz, _⟩ := list_of (f := Row.cells) hx (fun cs h => row_of h)
  obtain ⟨cl, hy, hnb, hsb, hok⟩ := list_of (f := CallV.cells) hy (fun cs h => call_of h)
  refine law12_HandleFrom.ok (law12_alive_c fun w1 b1 => ⟨_, rfl, condP_nt (wlet_intro fun w2 h2 => ?_)⟩)
  have hal : Below w1.heap.size w1 w2 := by rw [h2]; exact (Below.refl _ _).alloc (Nat.le_refl _) _
  have hnew : w2.ownsRow w.heap.size Ty.api_Row 4 (.slice (some ⟨w1.heap.size, 0, none⟩) 0 0) 0 (([] : List Row).flatMap Row.cells) := by rw [h2]; exact own_new b1.size (Nat.zero_le _) rfl
  clear h2
  have b2 := b1.trans (hal.mono b1.size)
  refine app_rows hnew hn (hx.below b2) (by omega) b2.size fun A3 c3 w3 ho3 hm3 => ⟨_, _, _, rfl, ?_⟩
  rw [Nat.zero_add, List.nil_append] at ho3
  rw [Nat.zero_add]
  have b3 := b2.trans (hm3.kp.below b2.size fun i hi e => by cases e; exact absurd hi (Nat.not_lt.2 b1.size))
  have sameIn : ∀ (w' : World) (t q : Option Addr) (e : Int) (K : Value → World → Prop), Below w3.heap.size w3 w' → law12_HandleFrom.p5 K A n c B nb cb A3 n c3 t q e false w' → law12_HandleFrom.p4 K A n c B nb cb A3 n c3 t e q e w' := fun w' t q e K hb' hk => by
    refine cond_ne (fun h => absurd rfl h) (fun _ => ?_)
    exact ref12_Same_c (Cs.ofOwn (own_below_kp ho3 hb')) (hx.below (b3.trans (hb'.mono b3.size))) hn hn (by omega) ⟨_, rfl, hk⟩
  refine handle_From_c (Cs.ofOwn ho3) hn hsz (fun he w4 b4 => ⟨_, _, rfl, ?_⟩) (fun he w4 p Fc hC b4 => ⟨_, _, rfl, ?_⟩)
  · have b4' := b3.trans (b4.mono b3.size)
    refine ref12_From_c (hx.below b4') hn hsz (fun _ w5 b5 => ⟨_, _, rfl, ?_⟩) (fun h => absurd h he)
    refine sameIn w5 _ _ _ _ (b4.trans (b5.mono b4.size)) ?_
    exact condP_f (cond_ne (fun _ => ⟨rfl, b4'.trans (b5.mono b4'.size)⟩) (fun h => absurd h he))
  · have b4' := b3.trans (b4.mono b3.size)
    obtain ⟨m1, m2, ok⟩ := fromE_ok he
    refine ref12_From_c (hx.below b4') hn hsz (fun h => absurd he h) (fun _ w5 q Fr hR b5 => ⟨_, _, rfl, ?_⟩)
    have b5' := b4'.trans (b5.mono b4'.size)
    have b45 := b4.trans (b5.mono b4.size)
    refine sameIn w5 _ _ _ _ b45 ?_
    refine condP_f (cond_ne (fun h => absurd rfl h) (fun _ => ⟨n + 1, ?_⟩))
    refine from_zero (b := w.heap.size) b5'.size (by omega) (fun w6 k6 => ?_) n 0 w5 l (by omega) (Kp.refl _ _) (own_below_kp ho3 b45) hn.symm
    have hAi : ∀ i, (A3.map (·.block)) = some i → i < w3.heap.size ∧ w.heap.size ≤ i := fun i hi => by
      cases A3 with
      | none => cases hi
      | some a => exact (own_lt ho3 (g := i) hi).symm
    have hC6 : TabC w6 w.heap.size p most.toNat l Fc := ((hC.below b5).kp k6 (fun i hi e => by have := (hC.lt hi).1; have := (hAi i e).1; omega)).base b3.size
    have hR6 : TabR w6 w.heap.size q most.toNat l Fr := (hR.kp k6 (fun i hi e => by have := (hR.lt hi).1; have := (hAi i e).1; have := b4.size; omega)).base b4'.size
    have hd : ∀ i, Fc i → ¬ Fr i := fun i h1 h2 => by have := (hC.lt h1).2; have := (hR.lt h2).1; omega
    have b6 : Below w.heap.size w w6 := b5'.trans (k6.below b5'.size fun i hi e => by have := (hAi i e).2; omega)
    refine law12_same_c hC6 hR6 ok fun w7 b7 => ⟨_, rfl, condP_t ?_⟩
    have b7' := b6.trans (b7.mono b6.size)
    have hl : l.length ≤ 4096 := Nat.le_trans ok.len ok.m4
    refine handle_Table_Rows_c (hC6.below b7) hl fun A8 c8 w8 o8 b8 => ⟨_, _, _, rfl, ?_⟩
    have b8' := b7'.trans (b8.mono b7'.size)
    refine ref12_Same_c (Cs.ofOwn o8) (hx.below b8') rfl hn (by omega) ⟨_, rfl, ?_⟩
    have b78 := b7.trans (b8.mono b7.size)
    refine ref12_Table_Live_c (hR6.below b78) ok.m4 fun A9 c9 w9 o9 b9 => ⟨_, _, _, rfl, ?_⟩
    have b9' := b8'.trans (b9.mono b8'.size)
    have b69 := b78.trans (b9.mono b78.size)
    refine fresh (vs := [_]) rfl fun w10 hB10 b10 s10 => ?_
    have b10' := b9'.trans (b10.mono b9'.size)
    have hll := liveFrom_len l 0
    refine ⟨61, from_plays (w0 := w) (l := l) (hs := liveFrom 0 l) hy hnb hsb hok (fun w' hb => ⟨rfl, hb⟩) 60 0 w10 (by omega) b10' ⟨Fc, Fr, fun i => i = w9.heap.size ∨ (Value.slice A9 (liveFrom 0 l).length c9).ownBlock = some i, (hC6.below b69).below b10, (hR6.below b69).below b10, ?_, hd, fun i h1 h2 => ?_, fun i h1 h2 => ?_, ok, liveFrom_u64 l 0⟩ (by omega)⟩
    · exact ⟨w9.heap.size, A9, c9, rfl, b9'.size, hB10, own_mono (own_below_kp o9 b10) b8'.size, fun g hg e => by have := (own_lt o9 hg).2; omega, rfl⟩
    · have h3 := (hC6.lt h1).2
      rcases h2 with rfl | h2
      · have := b69.size; omega
      · have := (own_lt o9 h2).1; have := b78.size; omega
    · have h3 := (hR6.lt h1).2
      rcases h2 with rfl | h2
      · have := b69.size; omega
      · have := (own_lt o9 h2).1; have := b78.size; omega

end Go.Proofs.Ytcpgflcbjcekeaa.C
