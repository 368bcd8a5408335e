/-
  Parts of the proofs of this seat: what the functions compute. No condition beyond what each theorem states.
-/
import Derived.Test.YtklmaeefnmcmlaaDoorF
import Derived.Test.YtklmaeefnmcmlaaDoorRK
import Derived.Test.YtklmaeefnmcmlaaDoorA
import Derived.Test.YtklmaeefnmcmlaaDoorB
set_option linter.unusedVariables false
set_option linter.unusedSimpArgs false
set_option maxRecDepth 100000
namespace Go.Proofs.YtklmaeefnmcmlaaDoor.C
open Go Go.RowKit Go.Proofs.YtklmaeefnmcmlaaDoor Go.Proofs.YtklmaeefnmcmlaaDoor.Sh Go.Proofs.YtklmaeefnmcmlaaDoor.F Go.Proofs.YtklmaeefnmcmlaaDoor.R

theorem ints_loop {w : World} {A B : Option Addr} {n c d : Nat} {l : List Int} {K : Value → World → Prop} (hx : Cs w A (nums .i64 l)) (hy : Cs w B (nums .i64 l)) (hn : n = l.length) (hl : n ≤ 1000000000000000) (hK : K (.bool true) w) : ∀ (j k : Nat), k + j = n →
    ref01_Ints.l0 K (j + 1) A n c B n d n k w := by
  intro j
  induction j with
  | zero =>
    intro k hk
    rw [ref01_Ints.l0_succ]
    exact cond_dec (fun h => by omega) (fun _ => hK)
  | succ j ih =>
    intro k hk
    rw [ref01_Ints.l0_succ]
    refine cond_dec (fun _ => ?_) (fun h => absurd h (by omega))
    have hxk : l[k]? = some l[k] := List.getElem?_eq_getElem (by omega)
    obtain ⟨a, rfl, c0⟩ := hx.at (nums_at hxk)
    obtain ⟨b, rfl, d0⟩ := hy.at (nums_at hxk)
    refine ⟨⟨by omega, by omega⟩, a, rfl, _, c0, ⟨by omega, by omega⟩, b, rfl, _, d0, cond_ne (fun h => absurd rfl h) (fun _ => ?_)⟩
    rw [cst k (by omega)]
    exact ih (k + 1) (by omega)
theorem ref01_Ints_c {w : World} {A B : Option Addr} {n n' c d : Nat} {l : List Int} {K : Value → World → Prop} (hx : Cs w A (nums .i64 l)) (hy : Cs w B (nums .i64 l)) (hn : n = l.length) (hn' : n' = l.length) (hl : n ≤ 1000000000000000) (hK : K (.bool true) w) : CallsE Pg ref01_Ints.N #[.slice A n c, .slice B n' d] w K := by
  obtain rfl : n' = n := by omega
  refine ref01_Ints.ok (cond_ne (fun h => absurd rfl h) (fun _ => ⟨n' + 1, ?_⟩))
  exact ints_loop hx hy hn hl hK n' 0 (by omega)
def I64 (x : Int) : Prop := -9223372036854775808 ≤ x ∧ x ≤ 9223372036854775807
/-! ### rows of whole numbers -/
theorem int_info : (Pg.info? Ty.int).map (fun i => (i.zero, i.size, i.bytes)) = some (some (.int .i64 0), 1, 8) := by kernel_rfl
theorem ints_under : Pg.underlying Ty.sl_int = some (.slice Ty.int) := by kernel_rfl
theorem app_i64 {w : World} {base : Nat} {v : Value} {n : Nat} {l : List Int} (hown : w.ownsRow base Ty.int 1 v n (nums .i64 l)) {B : Option Addr} {m c : Nat} {r : List Int} (hl : m = r.length) (hnews : Cs w B (nums .i64 r))
    (hbytes : (n + m) * 8 ≤ 140737488355328) (hbase : base ≤ w.heap.size) {K : Value → World → Prop}
    (h : ∀ A' c' w', w'.ownsRow base Ty.int 1 (.slice A' (n + m) c') (n + m) (nums .i64 (l ++ r)) → Mv (fun g => v.ownBlock = some g) w w' (fun g => (Value.slice A' (n + m) c').ownBlock = some g) → K (.slice A' (n + m) c') w') :
    SemJ Pg (Builtin.append_ #[Ty.sl_int, Ty.sl_int] Ty.sl_int #[v, .slice B m c]) K w :=
  app_own base ints_under int_info rfl (by decide) hown (by rw [nums_len, hl]; omega) hnews (nums_one .i64 r) hbytes (by decide) hbase fun A' c' w' h1 h2 => h A' c' w' (by rw [nums_app]; exact h1) h2
/-- A new copy of a slice of whole numbers. -/
theorem copy_i64 {w : World} {A : Option Addr} {m c : Nat} {l : List Int} {K : Value → World → Prop} (hx : Cs w A (nums .i64 l)) (hm : m = l.length) (hb : m * 8 ≤ 140737488355328)
    (hK : ∀ A' c' w', w'.ownsRow w.heap.size Ty.int 1 (.slice A' m c') m (nums .i64 l) → Below w.heap.size w w' → K (.slice A' m c') w') :
    wlet (w.alloc (.cells #[] Ty.int)) fun w1 => SemJ Pg (Builtin.append_ #[Ty.sl_int, Ty.sl_int] Ty.sl_int #[.slice (some ⟨w.heap.size, 0, none⟩) 0 0, .slice A m c]) K w1 := by
  refine wlet_intro fun w1 h1 => ?_
  have hal : Below w.heap.size w w1 := by rw [h1]; exact (Below.refl _ _).alloc (Nat.le_refl _) _
  have hnew : w1.ownsRow w.heap.size Ty.int 1 (.slice (some ⟨w.heap.size, 0, none⟩) 0 0) 0 (nums .i64 []) := by rw [h1]; exact own_new (Nat.le_refl _) (Nat.zero_le _) rfl
  clear h1
  refine app_i64 hnew hm (hx.below hal) (by omega) hal.size fun A' c' w2 ho2 hm2 => ?_
  rw [Nat.zero_add] at ho2 ⊢
  rw [List.nil_append] at ho2
  exact hK A' c' w2 ho2 (hal.trans (hm2.kp.below hal.size fun i hi e => by cases e; exact absurd hi (Nat.lt_irrefl _)))
theorem bytes_wf {xs : List Int} (h : ∀ x ∈ xs, (Lit.int .u8 x).wf = true) : Bytes xs := fun x hx => wf_u8 (h x hx)
theorem list_of {α : Type} {f : α → List Value} {Q : World → List Value → Prop} {R : α → Prop} {B m : Nat} {w : World} {A : Option Addr} {n c : Nat} (h : RdSlice B m Q w [.slice A n c]) (hq : ∀ cs, Q w cs → ∃ x, R x ∧ cs = f x) :
    ∃ l : List α, Cs w A (l.flatMap f) ∧ n = l.length ∧ n * B ≤ 140737488351232 ∧ ∀ x ∈ l, R x := by
  obtain ⟨A', n', c', rows, e, h1, h2, h3, h4, h5⟩ := h
  cases e
  obtain ⟨l, rfl, hl⟩ := exists_map (f := f) (Q := R) (fun r hr => hq r (h5 r hr).2)
  rw [List.length_map] at h3
  exact ⟨l, by rw [List.flatMap_def]; exact h4, h3.symm, h2, hl⟩
theorem nums_set (k : IntKind) (xs : List Int) (i : Nat) (y : Int) : (nums k xs).set i (.int k y) = nums k (xs.set i y) := by simp [nums, List.map_set]
/-! one cell of a row of one's own -/
theorem own_set1 {w : World} {base n c : Nat} {e : TypeId} {a : Addr} {cs : List Value} {k : Nat} {v : Value} {Q : World → Prop} (h : w.ownsRow base e 1 (.slice (some a) n c) n cs) (hk : k < cs.length)
    (hQ : ∀ w', w'.ownsRow base e 1 (.slice (some a) n c) n (cs.set k v) → Kp (· = a.block) w w' → w'.heap.size = w.heap.size → Q w') : canStore w (a.add k) ∧ wlet (w.setCell (a.add k) v) Q := by
  have hf : ∀ l : List Value, l.flatMap (fun x => [x]) = l := fun l => by induction l with | nil => rfl | cons x l ih => rw [List.flatMap_cons, ih]; rfl
  have := own_stores (m := 1) (f := fun x : Value => [x]) (l := cs) (k := k) (i := 0) (x := cs[k]) (y := v) (vs := [v]) (Q := Q) (by rw [hf]; exact h) (fun _ => rfl) (List.getElem?_eq_getElem hk) (Nat.le_refl 1) rfl (by rw [hf]; exact hQ)
  rw [Nat.mul_one] at this
  exact this
def bools (l : List Bool) : List Value := l.map fun x => .bool x
theorem bools_len (l : List Bool) : (bools l).length = l.length := by simp [bools]
theorem bools_at {l : List Bool} {j : Nat} {x : Bool} (h : l[j]? = some x) : (bools l)[j]? = some (.bool x) := by simp [bools, h]
theorem bools_set (l : List Bool) (i : Nat) (y : Bool) : (bools l).set i (.bool y) = bools (l.set i y) := by simp [bools, List.map_set]
theorem made_bools (n : Nat) : madeCells #[.bool false] (n * 1) = ⟨bools (List.replicate n false)⟩ := by
  rw [← Array.toList_inj, Nat.mul_one, toList_madeCells_one]
  simp [bools]
/-! ### sets: the program's -/
theorem blk_set1 {w : World} {g k : Nat} {e : TypeId} {cs : List Value} {v : Value} {Q : World → Prop} (h : Blk w g e cs) (hk : k < cs.length)
    (hQ : ∀ w', Blk w' g e (cs.set k v) → Kp (· = g) w w' → w'.heap.size = w.heap.size → Q w') : canStore w ((⟨g, 0, none⟩ : Addr).add k) ∧ wlet (w.setCell ((⟨g, 0, none⟩ : Addr).add k) v) Q := by
  have hf : ∀ l : List Value, l.flatMap (fun x => [x]) = l := fun l => by induction l with | nil => rfl | cons x l ih => rw [List.flatMap_cons, ih]; rfl
  have := blk_stores (m := 1) (f := fun x : Value => [x]) (l := cs) (k := k) (i := 0) (x := cs[k]) (y := v) (vs := [v]) (Q := Q) (by rw [hf]; exact h) (fun _ => rfl) (List.getElem?_eq_getElem hk) (Nat.le_refl 1) rfl (by rw [hf]; exact hQ)
  rw [Nat.mul_one] at this
  exact this
def SetV (w : World) (b : Nat) (p : Option Addr) (n : Nat) (S : Nat → Bool) (F : Nat → Prop) : Prop :=
  ∃ t g, p = some ⟨t, 0, none⟩ ∧ b ≤ t ∧ b ≤ g ∧ g ≠ t ∧ Blk w t Ty.set_Set [.int .i64 n, .slice (some ⟨g, 0, none⟩) ((n + 63) / 64) ((n + 63) / 64)] ∧ Blk w g Ty.uint64 (nums .u64 (ws S ((n + 63) / 64))) ∧ n ≤ 65536 ∧ F = fun i => i = t ∨ i = g
/-- No place beyond the set's own is in. -/
def Within (S : Nat → Bool) (n : Nat) : Prop := ∀ i, n ≤ i → S i = false
theorem SetV.kp {w w' : World} {b : Nat} {p : Option Addr} {n : Nat} {S : Nat → Bool} {F G : Nat → Prop} (h : SetV w b p n S F) (k : Kp G w w') (hd : ∀ i, F i → ¬ G i) : SetV w' b p n S F := by
  obtain ⟨t, g, rfl, h1, h2, h3, h4, h5, h6, rfl⟩ := h
  exact ⟨t, g, rfl, h1, h2, h3, h4.kp k (hd t (.inl rfl)), h5.kp k (hd g (.inr rfl)), h6, rfl⟩
theorem SetV.lt {w : World} {b : Nat} {p : Option Addr} {n : Nat} {S : Nat → Bool} {F : Nat → Prop} (h : SetV w b p n S F) {i : Nat} (hi : F i) : b ≤ i ∧ i < w.heap.size := by
  obtain ⟨t, g, rfl, h1, h2, h3, h4, h5, h6, rfl⟩ := h
  rcases hi with rfl | rfl
  · exact ⟨h1, h4.lt⟩
  · exact ⟨h2, h5.lt⟩
theorem SetV.below {w w' : World} {b : Nat} {p : Option Addr} {n : Nat} {S : Nat → Bool} {F : Nat → Prop} (h : SetV w b p n S F) (k : Below w.heap.size w w') : SetV w' b p n S F := h.kp (Kp.of_below k) (fun _ _ => id)
theorem SetV.base {w : World} {b b' : Nat} {p : Option Addr} {n : Nat} {S : Nat → Bool} {F : Nat → Prop} (h : SetV w b p n S F) (hb : b' ≤ b) : SetV w b' p n S F := by
  obtain ⟨t, g, rfl, h1, h2, h3, h4, h5, h6, rfl⟩ := h
  exact ⟨t, g, rfl, by omega, by omega, h3, h4, h5, h6, rfl⟩
theorem SetV.size {w : World} {b : Nat} {p : Option Addr} {n : Nat} {S : Nat → Bool} {F : Nat → Prop} (h : SetV w b p n S F) : n ≤ 65536 := by
  obtain ⟨t, g, rfl, h1, h2, h3, h4, h5, h6, rfl⟩ := h
  exact h6
theorem SetV.there {w : World} {b : Nat} {p : Option Addr} {n : Nat} {S : Nat → Bool} {F : Nat → Prop} (h : SetV w b p n S F) : p.isNone = false := by
  obtain ⟨t, g, rfl, _⟩ := h; rfl
theorem SetV.under {w w' : World} {b b0 : Nat} {p : Option Addr} {n : Nat} {S : Nat → Bool} {F : Nat → Prop} (h : SetV w b p n S F) (hb : b0 ≤ b) (hw : b0 ≤ w.heap.size) (k : Kp F w w') : Below b0 w w' :=
  k.below hw fun i hi hs => by have := (h.lt hs).1; omega
def clampN (n : Int) : Nat := (imax 0 (imin n 65536)).toNat
theorem clampN_eq (n : Int) : imax 0 (imin n 65536) = (clampN n : Int) ∧ clampN n ≤ 65536 := by
  unfold clampN imax imin
  (repeat' split) <;> omega
theorem madeN (k : IntKind) (n : Nat) : madeCells #[.int k 0] (n * 1) = ⟨nums k (List.replicate n 0)⟩ := by
  rw [← Array.toList_inj, Nat.mul_one, toList_madeCells_one]
  simp [nums]
def noneS : Nat → Bool := fun _ => false
theorem valF_none : ∀ (j b : Nat), valF noneS b j = 0
  | 0, _ => rfl
  | j + 1, b => by rw [valF, valF_none j (b + 1)]; rfl
theorem ws_none (W : Nat) : ws noneS W = List.replicate W 0 := by
  apply List.ext_getElem?
  intro k
  by_cases h : k < W
  · rw [ws_at h, List.getElem?_replicate, if_pos h]
    unfold wd
    rw [valF_none]; rfl
  · rw [List.getElem?_eq_none (by rw [ws_len]; omega), List.getElem?_eq_none (by simp; omega)]
theorem set_New_c {n : Int} {K : Value → World → Prop} {w : World} (hK : ∀ w' p F, SetV w' w.heap.size p (clampN n) noneS F → Below w.heap.size w w' → K (.pointer p) w') : CallsE Pg set_New.N #[.int .i64 n] w K := by
  refine set_New.ok ?_
  obtain ⟨e0, hm⟩ := clampN_eq n
  generalize clampN n = m at hK e0 hm
  have e1 : IntKind.wrap .i64 (Int.tdiv (IntKind.wrap .i64 ((imax 0 (imin n 65536)) + 63)) 64) = (((m + 63) / 64 : Nat) : Int) := by
    rw [e0, wrap64_in (x := (m : Int) + 63) (by omega) (by omega), Int.tdiv_eq_ediv_of_nonneg (by omega), wrap64_in (by omega) (by omega)]; omega
  unfold set_New.F
  rw [e1, e0, Int.toNat_natCast]
  refine ⟨by decide, ⟨by omega, by omega, by omega, by omega⟩, ?_⟩
  rw [madeN]
  refine wlet_intro fun w1 h1 => wlet_intro fun w2 h2 => ?_
  have hal : Below w.heap.size w w1 := by rw [h1]; exact (Below.refl _ _).alloc (Nat.le_refl _) _
  have hg : Blk w1 w.heap.size Ty.uint64 (nums .u64 (List.replicate ((m + 63) / 64) 0)) := by rw [h1]; exact Blk.new w _ _
  clear h1
  have hal2 : Below w1.heap.size w1 w2 := by rw [h2]; exact (Below.refl _ _).alloc (Nat.le_refl _) _
  have hB : Blk w2 w1.heap.size Ty.set_Set [.int .i64 m, .slice (some ⟨w.heap.size, 0, none⟩) ((m + 63) / 64) ((m + 63) / 64)] := by rw [h2]; exact Blk.new w1 _ _
  clear h2
  have hg2 := hg.kp (Kp.of_below hal2) id
  have hlt := hg.lt
  rw [← ws_none] at hg2
  exact hK w2 _ _ ⟨w1.heap.size, w.heap.size, rfl, hal.size, Nat.le_refl _, by omega, hB, hg2, hm, rfl⟩ (hal.trans (hal2.mono hal.size))
theorem set_Set_Len_c {w : World} {b : Nat} {p : Option Addr} {n : Nat} {S : Nat → Bool} {F : Nat → Prop} {K : Value → World → Prop} (h : SetV w b p n S F) (hK : K (.int .i64 n) w) : CallsE Pg set_Set_Len.N #[.pointer p] w K := by
  obtain ⟨t, g, rfl, h1, h2, h3, h4, h5, h6, rfl⟩ := h
  exact set_Set_Len.ok (condP_f ⟨_, rfl, _, h4.cell' (j := 0) rfl, hK⟩)
theorem tdivN (k d : Nat) (hk : (k : Int) ≤ 9223372036854775807) : IntKind.wrap .i64 (Int.tdiv (k : Int) (d : Int)) = ((k / d : Nat) : Int) := by
  have h : k / d ≤ k := Nat.div_le_self k d
  rw [Int.tdiv_eq_ediv_of_nonneg (Int.natCast_nonneg _), ← Int.natCast_ediv]
  generalize k / d = q at h
  exact wrap64_in (by omega) (by omega)
theorem tmodN (k d : Nat) : Int.tmod (k : Int) (d : Int) = ((k % d : Nat) : Int) := by
  rw [Int.tmod_eq_emod_of_nonneg (Int.natCast_nonneg _), ← Int.natCast_emod]
def hasV (S : Nat → Bool) (i : Int) : Bool := decide (0 ≤ i) && S i.toNat
theorem set_Set_Has_c {w : World} {b : Nat} {p : Option Addr} {n : Nat} {S : Nat → Bool} {F : Nat → Prop} {i : Int} {K : Value → World → Prop} (h : SetV w b p n S F) (hS : Within S n) (hK : K (.bool (hasV S i)) w) : CallsE Pg set_Set_Has.N #[.pointer p, .int .i64 i] w K := by
  have h0 := h
  have hsz := h.size
  obtain ⟨t, g, rfl, h1, h2, h3, h4, h5, h6, rfl⟩ := h
  refine set_Set_Has.ok ?_
  unfold hasV at hK
  refine cond_dec (fun hi => ?_) (fun hi => ?_)
  · obtain ⟨k, rfl⟩ := Int.eq_ofNat_of_zero_le hi
    rw [decide_eq_true hi, Bool.true_and, Int.toNat_natCast] at hK
    refine set_Set_Len_c h0 ⟨_, rfl, cond_dec (fun hlt => ?_) (fun hlt => ?_)⟩
    · have ed := tdivN k 64 (by omega)
      have em := tmodN k 64
      rw [show ((64 : Nat) : Int) = 64 from rfl] at ed em
      rw [ed, em, Int.toNat_natCast]
      obtain ⟨a, ea, hc⟩ := (Cs.of_blk0 h5).at (nums_at (ws_at (S := S) (show k / 64 < (n + 63) / 64 by omega)))
      refine ⟨_, rfl, _, _, _, h4.cell' (j := 1) rfl, by decide, ⟨by omega, by omega⟩, a, ea, _, hc, by decide, by omega, ?_⟩
      unfold set_Set_Has.p1
      rw [wd_get]
      exact hK
    · rw [hS k (by omega)] at hK
      exact hK
  · rw [decide_eq_false hi, Bool.false_and] at hK
    exact hK
/-- May a place be turned? -/
def canPut (S : Nat → Bool) (n : Nat) (i : Int) (v : Bool) : Bool := decide (0 ≤ i) && (decide (i < n) && (S i.toNat != v))
def putS (S : Nat → Bool) (n : Nat) (i : Int) (v : Bool) : Nat → Bool := if canPut S n i v = true then upd S i.toNat v else S
theorem canPut_true {S : Nat → Bool} {n : Nat} {i : Int} {v : Bool} (h : canPut S n i v = true) : ∃ k : Nat, i = k ∧ k < n ∧ S k = !v := by
  unfold canPut at h
  simp only [Bool.and_eq_true, decide_eq_true_eq, bne_iff_ne, ne_eq] at h
  obtain ⟨h1, h2, h3⟩ := h
  refine ⟨i.toNat, by omega, by omega, ?_⟩
  cases hs : S i.toNat <;> cases v <;> simp_all
theorem putS_within {S : Nat → Bool} {n : Nat} {i : Int} {v : Bool} (h : Within S n) : Within (putS S n i v) n := by
  unfold putS
  split
  · rename_i hc
    obtain ⟨k, rfl, hk, _⟩ := canPut_true hc
    intro j hj
    rw [Int.toNat_natCast, upd_ne (by omega)]
    exact h j hj
  · exact h
theorem add_has {S : Nat → Bool} {n : Nat} {i : Int} : canPut S n i true = (decide (0 ≤ i) && (decide (i < n) && !hasV S i)) := by
  unfold canPut hasV
  by_cases h : 0 ≤ i
  · rw [decide_eq_true h]; cases S i.toNat <;> simp
  · rw [decide_eq_false h]; simp
theorem del_has {S : Nat → Bool} {n : Nat} {i : Int} (hS : Within S n) : canPut S n i false = hasV S i := by
  unfold canPut hasV
  by_cases h : 0 ≤ i
  · rw [decide_eq_true h]
    by_cases h2 : i < n
    · rw [decide_eq_true h2]; cases S i.toNat <;> simp
    · rw [decide_eq_false h2, hS i.toNat (by omega)]; simp
  · rw [decide_eq_false h]; simp
theorem pow64 {k : Nat} : 2 ^ (k % 64) < 18446744073709551616 := show 2 ^ (k % 64) < 2 ^ 64 from Nat.pow_lt_pow_right (by decide) (Nat.mod_lt _ (by decide))
theorem set_Set_Add_c {w : World} {b : Nat} {p : Option Addr} {n : Nat} {S : Nat → Bool} {F : Nat → Prop} {i : Int} {K : Value → World → Prop} (h : SetV w b p n S F) (hS : Within S n) (hi : I64 i)
    (hK : ∀ w', SetV w' b p n (putS S n i true) F → Kp F w w' → K (.bool (canPut S n i true)) w') : CallsE Pg set_Set_Add.N #[.pointer p, .int .i64 i] w K := by
  have no : canPut S n i true = false → K (.bool false) w := fun e => by
    have := hK w (by unfold putS; rw [e]; exact h) (Kp.refl _ _)
    rw [e] at this; exact this
  refine set_Set_Add.ok ?_
  have eadd := @add_has S n i
  refine cond_dec (fun hlt => ?_) (fun hge => ?_)
  · exact no (by rw [eadd, decide_eq_false (by omega)]; rfl)
  refine set_Set_Len_c h ⟨_, rfl, cond_dec (fun hlt => ?_) (fun hlt => ?_)⟩
  · exact no (by rw [eadd, decide_eq_false (by omega : ¬ i < n)]; simp)
  refine set_Set_Has_c h hS ⟨_, rfl, ?_⟩
  rw [decide_eq_true (by omega : 0 ≤ i), decide_eq_true (by omega : i < n), Bool.true_and, Bool.true_and] at eadd
  cases hh : hasV S i with
  | true => rw [hh] at eadd; exact no eadd
  | false =>
    rw [hh] at eadd
    have eput : putS S n i true = upd S i.toNat true := by unfold putS; rw [if_pos (by rw [eadd]; rfl)]
    rw [eput, eadd] at hK
    obtain ⟨k, rfl⟩ := Int.eq_ofNat_of_zero_le (show 0 ≤ i by omega)
    rw [Int.toNat_natCast] at hK
    have hsz := h.size
    obtain ⟨t, g, rfl, h1, h2, h3, h4, h5, h6, rfl⟩ := h
    have ed := tdivN k 64 (by omega)
    have em := tmodN k 64
    rw [show ((64 : Nat) : Int) = 64 from rfl] at ed em
    refine condP_f ?_
    unfold set_Set_Add.p2
    rw [ed, em, Int.toNat_natCast, shl1 (show k % 64 < 64 by omega)]
    have hkw : k / 64 < (n + 63) / 64 := by omega
    have hc : w.cell? ((⟨g, 0, none⟩ : Addr).add (k / 64)) = some (.int .u64 ((wd S (k / 64) : Nat) : Int)) := by
      obtain ⟨a, ea, hc⟩ := (Cs.of_blk0 h5).at (nums_at (k := .u64) (ws_at (S := S) hkw))
      cases ea
      exact hc
    refine ⟨fun H => H = w.heap, rfl, _, rfl, by decide, by decide, by omega, _, _, _, fun w' e => held (h4.cell' (j := 1) rfl) w' e, ⟨by omega, by omega⟩, _, rfl, _, fun w' e => held hc w' e, ⟨by omega, by omega⟩, _, rfl, ?_⟩
    rw [ibits_or (wd_lt _ _) pow64, ← wd_add]
    refine blk_set1 h5 (by rw [nums_len, ws_len]; exact hkw) fun w' hB' hk' _ => ?_
    rw [nums_set, ws_set hkw] at hB'
    exact hK w' ⟨t, g, rfl, h1, h2, h3, h4.kp hk' (fun e => h3 e.symm), hB', h6, rfl⟩ (hk'.mono (fun i _ e => .inr e))
theorem set_Set_Del_c {w : World} {b : Nat} {p : Option Addr} {n : Nat} {S : Nat → Bool} {F : Nat → Prop} {i : Int} {K : Value → World → Prop} (h : SetV w b p n S F) (hS : Within S n) (hi : I64 i)
    (hK : ∀ w', SetV w' b p n (putS S n i false) F → Kp F w w' → K (.bool (canPut S n i false)) w') : CallsE Pg set_Set_Del.N #[.pointer p, .int .i64 i] w K := by
  have edel := @del_has S n i hS
  refine set_Set_Del.ok (set_Set_Has_c h hS ⟨_, rfl, ?_⟩)
  cases hh : hasV S i with
  | false =>
    have := hK w (by unfold putS; rw [edel, hh]; exact h) (Kp.refl _ _)
    rw [edel, hh] at this
    exact this
  | true =>
    rw [hh] at edel
    have eput : putS S n i false = upd S i.toNat false := by unfold putS; rw [if_pos edel]
    rw [eput, edel] at hK
    obtain ⟨k, rfl, hkn, _⟩ := canPut_true edel
    rw [Int.toNat_natCast] at hK
    have hsz := h.size
    obtain ⟨t, g, rfl, h1, h2, h3, h4, h5, h6, rfl⟩ := h
    have ed := tdivN k 64 (by omega)
    have em := tmodN k 64
    rw [show ((64 : Nat) : Int) = 64 from rfl] at ed em
    refine condP_nt ?_
    unfold set_Set_Del.p1
    rw [ed, em, Int.toNat_natCast, shl1 (show k % 64 < 64 by omega)]
    have hkw : k / 64 < (n + 63) / 64 := by omega
    have hc : w.cell? ((⟨g, 0, none⟩ : Addr).add (k / 64)) = some (.int .u64 ((wd S (k / 64) : Nat) : Int)) := by
      obtain ⟨a, ea, hc⟩ := (Cs.of_blk0 h5).at (nums_at (k := .u64) (ws_at (S := S) hkw))
      cases ea
      exact hc
    refine ⟨fun H => H = w.heap, rfl, _, rfl, by decide, by decide, by omega, _, _, _, fun w' e => held (h4.cell' (j := 1) rfl) w' e, ⟨by omega, by omega⟩, _, rfl, _, fun w' e => held hc w' e, ⟨by omega, by omega⟩, _, rfl, ?_⟩
    rw [ibits_andNot (wd_lt _ _) pow64, ← wd_del]
    refine blk_set1 h5 (by rw [nums_len, ws_len]; exact hkw) fun w' hB' hk' _ => ?_
    rw [nums_set, ws_set hkw] at hB'
    exact hK w' ⟨t, g, rfl, h1, h2, h3, h4.kp hk' (fun e => h3 e.symm), hB', h6, rfl⟩ (hk'.mono (fun i _ e => .inr e))
theorem count_loop {w : World} {A : Option Addr} {W c : Nat} {S : Nat → Bool} {K : Value → World → Prop} (hx : Cs w A (nums .u64 (ws S W))) (hW : W ≤ 2000) (hK : K (.int .i64 ((cnt S 0 (64 * W) : Nat) : Int)) w) : ∀ (d k : Nat), k + d = W → set_Set_Count.l0 K (d + 1) ((cnt S 0 (64 * k) : Nat) : Int) A W c W k w := by
  intro d
  induction d with
  | zero =>
    intro k hk
    rw [set_Set_Count.l0_succ]
    obtain rfl : k = W := by omega
    exact cond_dec (fun h => by omega) (fun _ => hK)
  | succ d ih =>
    intro k hk
    rw [set_Set_Count.l0_succ]
    refine cond_dec (fun _ => ?_) (fun h => absurd h (by omega))
    obtain ⟨a, rfl, c0⟩ := hx.at (nums_at (ws_at (S := S) (show k < W by omega)))
    refine ⟨⟨by omega, by omega⟩, a, rfl, _, c0, math_bits_OnesCount64_c (wd_lt S k) ⟨_, rfl, ?_⟩⟩
    have h1 := cnt_le S (64 * k) 0
    have h2 := cnt_le S 64 (64 * k)
    have e : pc 64 (wd S k) = cnt S (64 * k) 64 := pc_valF S 64 (64 * k)
    have e3 : cnt S 0 (64 * (k + 1)) = cnt S 0 (64 * k) + cnt S (64 * k) 64 := by
      have := cnt_add S (64 * k) 0 64
      rw [Nat.zero_add] at this
      exact this
    have e2 : IntKind.wrap .i64 (((cnt S 0 (64 * k) : Nat) : Int) + ((pc 64 (wd S k) : Nat) : Int)) = ((cnt S 0 (64 * (k + 1)) : Nat) : Int) := by
      rw [e, e3, wrap64_in (by omega) (by omega)]; push_cast; rfl
    rw [e2, cst k (by omega)]
    exact ih (k + 1) (by omega)
theorem cnt_within {S : Nat → Bool} {n m : Nat} (hS : Within S n) (h : n ≤ m) : cnt S 0 m = cnt S 0 n := by
  have e : m = n + (m - n) := by omega
  rw [e, cnt_add, cnt_none S (m - n) (0 + n) (fun i hi => hS i (by omega))]; rfl
theorem set_Set_Count_c {w : World} {b : Nat} {p : Option Addr} {n : Nat} {S : Nat → Bool} {F : Nat → Prop} {K : Value → World → Prop} (h : SetV w b p n S F) (hS : Within S n) (hK : K (.int .i64 ((cnt S 0 n : Nat) : Int)) w) : CallsE Pg set_Set_Count.N #[.pointer p] w K := by
  obtain ⟨t, g, rfl, h1, h2, h3, h4, h5, h6, rfl⟩ := h
  refine set_Set_Count.ok (condP_f ⟨_, rfl, _, _, _, h4.cell' (j := 1) rfl, (n + 63) / 64 + 1, ?_⟩)
  rw [← cnt_within hS (show n ≤ 64 * ((n + 63) / 64) by omega)] at hK
  exact count_loop (Cs.of_blk0 h5) (by omega) hK _ 0 (by omega)
def turnW (want : Bool) : Nat := if want then 0 else 18446744073709551615
theorem turn_bit (S : Nat → Bool) (want : Bool) (k i : Nat) : (wd S k ^^^ turnW want).testBit i = (decide (i < 64) && (S (64 * k + i) == want)) := by
  rw [Nat.testBit_xor, wd_bit]
  cases want with
  | true => simp [turnW]
  | false =>
    have : (18446744073709551615 : Nat) = 2 ^ 64 - 1 := by decide
    simp only [turnW, Bool.false_eq_true, if_false, this, Nat.testBit_two_pow_sub_one]
    cases S (64 * k + i) <;> cases decide (i < 64) <;> rfl
theorem turn_lt (S : Nat → Bool) (want : Bool) (k : Nat) : wd S k ^^^ turnW want < 18446744073709551616 := Nat.xor_lt_two_pow (n := 64) (wd_lt S k) (by cases want <;> decide)
theorem next_loop {w : World} {b : Nat} {p : Option Addr} {n : Nat} {S : Nat → Bool} {F : Nat → Prop} {want : Bool} {K : Value → World → Prop} (h : SetV w b p n S F) (hT : Tab w) : ∀ (d f : Nat), n ≤ 64 * (f / 64) + 64 * d → (f : Int) ≤ 9223372036854775807 → K (.int .i64 (nxt S want f (n - f))) w → set_Set_next.l0 K (d + 1) p f ((turnW want : Nat) : Int) w := by
  have hsz := h.size
  intro d
  induction d with
  | zero =>
    intro f hf hf2 hK
    rw [set_Set_next.l0_succ]
    refine set_Set_Len_c h ⟨_, rfl, cond_dec (fun h => by omega) (fun _ => ?_)⟩
    rw [nxt_end (by omega)] at hK
    exact hK
  | succ d ih =>
    intro f hf hf2 hK
    rw [set_Set_next.l0_succ]
    refine set_Set_Len_c h ⟨_, rfl, cond_dec (fun hlt => ?_) (fun hlt => ?_)⟩
    · have h0 := h
      obtain ⟨t, g, rfl, h1, h2, h3, h4, h5, h6, rfl⟩ := h
      have ed := tdivN f 64 (by omega)
      have em := tmodN f 64
      rw [show ((64 : Nat) : Int) = 64 from rfl] at ed em
      rw [ed, em, Int.toNat_natCast]
      obtain ⟨a, ea, hc⟩ := (Cs.of_blk0 h5).at (nums_at (ws_at (S := S) (show f / 64 < (n + 63) / 64 by omega)))
      refine ⟨_, rfl, _, _, _, h4.cell' (j := 1) rfl, by decide, ⟨by omega, by omega⟩, a, ea, _, hc, by decide, by omega, ?_⟩
      have ex : ishr .u64 (ibits .xor .u64 ((wd S (f / 64) : Nat) : Int) ((turnW want : Nat) : Int)) ((f % 64 : Nat) : Int) = (((wd S (f / 64) ^^^ turnW want) / 2 ^ (f % 64) : Nat) : Int) := by
        rw [ibits_xor (wd_lt _ _) (by cases want <;> decide), shrN _ _ (by omega)]
      rw [ex]
      have hlt64 := turn_lt S want (f / 64)
      have hbit : ∀ i, ((wd S (f / 64) ^^^ turnW want) / 2 ^ (f % 64)).testBit i = (decide (i + f % 64 < 64) && (S (f + i) == want)) := fun i => by
        rw [Nat.testBit_div_two_pow, turn_bit]
        have : 64 * (f / 64) + (i + f % 64) = f + i := by omega
        rw [this]
      have hvl : (wd S (f / 64) ^^^ turnW want) / 2 ^ (f % 64) < 18446744073709551616 := Nat.lt_of_le_of_lt (Nat.div_le_self _ _) hlt64
      generalize (wd S (f / 64) ^^^ turnW want) / 2 ^ (f % 64) = v at hbit hvl
      refine cond_ne (fun hv => ?_) (fun hv => ?_)
      · have hv0 : v ≠ 0 := by omega
        obtain ⟨z1, z2, z3⟩ := tz_spec hv0 hvl
        refine math_bits_TrailingZeros64_c hvl hv0 hT ⟨_, rfl, _, rfl, _, h4.cell' (j := 0) rfl, ?_⟩
        rw [hbit] at z2
        simp only [Bool.and_eq_true, decide_eq_true_eq, beq_iff_eq] at z2
        have hskip : nxt S want f (n - f) = nxt S want (f + tz v) (n - (f + tz v)) := nxt_skip (tz v) f rfl fun i i1 i2 e => by
          have := z3 (i - f) (by omega)
          rw [hbit] at this
          have e2 : f + (i - f) = i := by omega
          rw [e2, e, decide_eq_true (by omega)] at this
          simp at this
        rw [hskip] at hK
        have ea : IntKind.wrap .i64 ((f : Int) + ((tz v : Nat) : Int)) = ((f + tz v : Nat) : Int) := by rw [wrap64_in (by omega) (by omega)]; push_cast; rfl
        rw [ea]
        refine cond_dec (fun hl => ?_) (fun hl => ?_)
        · rw [nxt_here (by omega) z2.2] at hK
          exact hK
        · rw [nxt_end (by omega)] at hK
          exact hK
      · have hv0 : v = 0 := by omega
        subst hv0
        have hskip : nxt S want f (n - f) = nxt S want (64 * (f / 64) + 64) (n - (64 * (f / 64) + 64)) := nxt_skip (64 * (f / 64) + 64 - f) f (by omega) fun i i1 i2 e => by
          have := hbit (i - f)
          have e2 : f + (i - f) = i := by omega
          rw [e2, e, decide_eq_true (by omega)] at this
          simp at this
        rw [hskip] at hK
        have ea : IntKind.wrap .i64 ((IntKind.wrap .i64 (((f / 64 : Nat) : Int) * 64)) + 64) = ((64 * (f / 64) + 64 : Nat) : Int) := by
          rw [wrap64_in (x := ((f / 64 : Nat) : Int) * 64) (by omega) (by omega), wrap64_in (by omega) (by omega)]; omega
        rw [ea]
        exact ⟨by decide, ih (64 * (f / 64) + 64) (by omega) (by omega) hK⟩
    · rw [nxt_end (by omega)] at hK
      exact hK
def nextV (S : Nat → Bool) (n : Nat) (want : Bool) (i : Int) : Int := nxt S want i.toNat (n - i.toNat)
theorem set_Set_next_c {w : World} {b : Nat} {p : Option Addr} {n : Nat} {S : Nat → Bool} {F : Nat → Prop} {want : Bool} {i : Int} {K : Value → World → Prop} (h : SetV w b p n S F) (hT : Tab w) (hi : I64 i) (hK : K (.int .i64 (nextV S n want i)) w) : CallsE Pg set_Set_next.N #[.pointer p, .int .i64 i, .int .u64 ((turnW want : Nat) : Int)] w K := by
  refine set_Set_next.ok ?_
  have hsz := h.size
  have e : imax 0 i = ((i.toNat : Nat) : Int) := by unfold imax; split <;> omega
  unfold set_Set_next.F set_Set_next.p0
  rw [e]
  exact ⟨n + 1, next_loop h hT n i.toNat (by omega) (by unfold I64 at hi; omega) hK⟩
theorem set_Set_First_c {w : World} {b : Nat} {p : Option Addr} {n : Nat} {S : Nat → Bool} {F : Nat → Prop} {i : Int} {K : Value → World → Prop} (h : SetV w b p n S F) (hT : Tab w) (hi : I64 i) (hK : K (.int .i64 (nextV S n true i)) w) : CallsE Pg set_Set_First.N #[.pointer p, .int .i64 i] w K :=
  set_Set_First.ok (set_Set_next_c (want := true) h hT hi ⟨_, rfl, hK⟩)
theorem set_Set_Gap_c {w : World} {b : Nat} {p : Option Addr} {n : Nat} {S : Nat → Bool} {F : Nat → Prop} {i : Int} {K : Value → World → Prop} (h : SetV w b p n S F) (hT : Tab w) (hi : I64 i) (hK : K (.int .i64 (nextV S n false i)) w) : CallsE Pg set_Set_Gap.N #[.pointer p, .int .i64 i] w K :=
  set_Set_Gap.ok (set_Set_next_c (want := false) h hT hi ⟨_, rfl, hK⟩)
/-! ### lists and bytes of sets -/
theorem mem_next {S : Nat → Bool} : ∀ (k f : Nat), (nxt S true f k = -1 ∧ memL S f k = []) ∨ ∃ j, f ≤ j ∧ j < f + k ∧ nxt S true f k = (j : Int) ∧ memL S f k = (j : Int) :: memL S (j + 1) (f + k - (j + 1))
  | 0, f => .inl ⟨rfl, rfl⟩
  | k + 1, f => by
    rw [nxt, memL]
    cases hs : S f with
    | true =>
      refine .inr ⟨f, Nat.le_refl _, by omega, rfl, ?_⟩
      have : f + (k + 1) - (f + 1) = k := by omega
      rw [this]; rfl
    | false =>
      have e : f + 1 + k = f + (k + 1) := by omega
      rcases mem_next (S := S) k (f + 1) with ⟨h1, h2⟩ | ⟨j, h1, h2, h3, h4⟩
      · exact .inl ⟨h1, h2⟩
      · rw [e] at h2 h4
        exact .inr ⟨j, by omega, h2, h3, h4⟩
theorem memL_le {S : Nat → Bool} {b n : Nat} : (memL S b n).length ≤ n := by rw [memL_len]; exact cnt_le S n b
theorem list_loop {w0 : World} {b : Nat} {p : Option Addr} {n : Nat} {S : Nat → Bool} {F : Nat → Prop} {K : Value → World → Prop} (h : SetV w0 b p n S F) (hT : Tab w0)
    (hK : ∀ A m c w', m = (memL S 0 n).length → w'.ownsRow w0.heap.size Ty.int 1 (.slice A m c) m (nums .i64 (memL S 0 n)) → Below w0.heap.size w0 w' → K (.slice A m c) w') :
    ∀ (d f : Nat) (w : World) (acc : List Int) (A : Option Addr) (c : Nat), n ≤ f + d → f ≤ n → Below w0.heap.size w0 w → w.ownsRow w0.heap.size Ty.int 1 (.slice A acc.length c) acc.length (nums .i64 acc) → acc ++ memL S f (n - f) = memL S 0 n →
      set_Set_List.l0 K (d + 1) p A acc.length c (nxt S true f (n - f)) w := by
  have hsz := h.size
  have hll := @memL_le S 0 n
  intro d
  induction d with
  | zero =>
    intro f w acc A c hf hf2 hb ho he
    rw [set_Set_List.l0_succ, nxt_end (by omega)]
    have e0 : n - f = 0 := by omega
    rw [e0] at he
    simp only [memL, List.append_nil] at he
    refine cond_dec (fun h => by omega) (fun _ => hK A _ c w (by rw [he]) ?_ hb)
    rw [← he]; exact ho
  | succ d ih =>
    intro f w acc A c hf hf2 hb ho he
    rw [set_Set_List.l0_succ]
    rcases mem_next (S := S) (n - f) f with ⟨h1, h2⟩ | ⟨j, h1, h2, h3, h4⟩
    · rw [h1]
      rw [h2, List.append_nil] at he
      refine cond_dec (fun h => by omega) (fun _ => hK A _ c w (by rw [he]) ?_ hb)
      rw [← he]; exact ho
    · rw [h3]
      have ej : f + (n - f) - (j + 1) = n - (j + 1) := by omega
      rw [h4, ej] at he
      refine cond_dec (fun _ => wlet_intro fun w1 hw1 => ?_) (fun h => by omega)
      have hal : Below w.heap.size w w1 := by rw [hw1]; exact (Below.refl _ _).alloc (Nat.le_refl _) _
      have hz : Blk w1 w.heap.size Ty.int (nums .i64 [(j : Int)]) := by rw [hw1]; exact Blk.new w Ty.int _
      clear hw1
      have b1 := hb.trans (hal.mono hb.size)
      have ho1 := own_below_kp ho hal
      have hla : acc.length ≤ 65536 := by have := congrArg List.length he; rw [List.length_append] at this; omega
      refine app_i64 (m := 1) ho1 rfl (Cs.of_blk0 hz) (by omega) b1.size fun A' c' w2 ho2 hm2 => ⟨_, _, _, rfl, ?_⟩
      have b2 := b1.trans (hm2.kp.below b1.size fun i hi e => by have := (own_lt ho1 e).1; omega)
      rw [wrap64_in (x := (j : Int) + 1) (by omega) (by omega)]
      refine set_Set_First_c (h.below b2) (hT.below b2 hT.lt) ⟨by omega, by omega⟩ ⟨_, rfl, ?_⟩
      have en : nextV S n true ((j : Int) + 1) = nxt S true (j + 1) (n - (j + 1)) := by
        unfold nextV
        have : ((j : Int) + 1).toNat = j + 1 := by omega
        rw [this]
      rw [en]
      have el : acc.length + 1 = (acc ++ [(j : Int)]).length := by simp
      rw [el] at ho2 ⊢
      exact ih (j + 1) w2 _ A' c' (by omega) (by omega) b2 ho2 (by rw [List.append_assoc]; exact he)
theorem set_Set_List_c {w : World} {b : Nat} {p : Option Addr} {n : Nat} {S : Nat → Bool} {F : Nat → Prop} {K : Value → World → Prop} (h : SetV w b p n S F) (hT : Tab w)
    (hK : ∀ A m c w', m = (memL S 0 n).length → w'.ownsRow w.heap.size Ty.int 1 (.slice A m c) m (nums .i64 (memL S 0 n)) → Below w.heap.size w w' → K (.slice A m c) w') : CallsE Pg set_Set_List.N #[.pointer p] w K :=
  set_Set_List.ok (set_Set_First_c h hT ⟨by decide, by decide⟩ ⟨_, rfl, n + 1, list_loop h hT hK n 0 w [] none 0 (by omega) (by omega) (Below.refl _ _) (World.ownsRow_nil _ _ _ _) rfl⟩)
def bytL (S : Nat → Bool) (n : Nat) : List Int := (List.range ((n + 7) / 8)).map fun k => (valF S (8 * k) 8 : Int)
def bytP (S : Nat → Bool) (N k : Nat) : List Int := (List.range N).map fun i => if i < k then (valF S (8 * i) 8 : Int) else 0
theorem bytP_at {S : Nat → Bool} {N k i : Nat} (h : i < N) : (bytP S N k)[i]? = some (if i < k then (valF S (8 * i) 8 : Int) else 0) := by simp [bytP, h]
theorem bytP_len {S : Nat → Bool} {N k : Nat} : (bytP S N k).length = N := by simp [bytP]
theorem bytL_len {S : Nat → Bool} {n : Nat} : (bytL S n).length = (n + 7) / 8 := by simp [bytL]
theorem bytP_0 {S : Nat → Bool} {N : Nat} : bytP S N 0 = List.replicate N 0 := by
  apply List.ext_getElem?
  intro i
  by_cases h : i < N
  · rw [bytP_at h, List.getElem?_replicate, if_pos h, if_neg (by omega)]
  · rw [List.getElem?_eq_none (by rw [bytP_len]; omega), List.getElem?_eq_none (by simp; omega)]
theorem bytP_N {S : Nat → Bool} {n : Nat} : bytP S ((n + 7) / 8) ((n + 7) / 8) = bytL S n := by
  apply List.ext_getElem?
  intro i
  by_cases h : i < (n + 7) / 8
  · rw [bytP_at h, if_pos h]; simp [bytL, h]
  · rw [List.getElem?_eq_none (by rw [bytP_len]; omega), List.getElem?_eq_none (by rw [bytL_len]; omega)]
theorem bytP_set {S : Nat → Bool} {N k : Nat} (h : k < N) : (bytP S N k).set k (valF S (8 * k) 8 : Int) = bytP S N (k + 1) := by
  apply List.ext_getElem?
  intro i
  rw [List.getElem?_set]
  by_cases hi : k = i
  · subst hi
    rw [if_pos rfl, bytP_len, if_pos h, bytP_at h, if_pos (by omega)]
  · rw [if_neg hi]
    by_cases hN : i < N
    · rw [bytP_at hN, bytP_at hN]
      by_cases h2 : i < k
      · rw [if_pos h2, if_pos (by omega)]
      · rw [if_neg h2, if_neg (by omega)]
    · rw [List.getElem?_eq_none (by rw [bytP_len]; omega), List.getElem?_eq_none (by rw [bytP_len]; omega)]
theorem valF_byte (S : Nat → Bool) (b : Nat) : valF S b 8 < 256 := valF_lt S 8 b
theorem bytL_bytes {S : Nat → Bool} {n : Nat} : Bytes (bytL S n) := fun x hx => by
  simp only [bytL, List.mem_map] at hx
  obtain ⟨k, _, rfl⟩ := hx
  have := valF_byte S (8 * k)
  exact ⟨by omega, by omega⟩
theorem words_under : Pg.underlying Ty.sl_uint64 = some (.slice Ty.uint64) := by kernel_rfl

end Go.Proofs.YtklmaeefnmcmlaaDoor.C
