/-
  Parts of the proofs of this seat: what the functions compute. No condition beyond what each theorem states.
-/
import Derived.Test.YtemgehocabfbkaaF
import Derived.Test.YtemgehocabfbkaaRK
import Derived.Test.YtemgehocabfbkaaB
import Derived.Test.YtemgehocabfbkaaC
set_option linter.unusedVariables false
set_option linter.unusedSimpArgs false
set_option maxRecDepth 100000
namespace Go.Proofs.Ytemgehocabfbkaa.C
open Go Go.RowKit Go.Proofs.Ytemgehocabfbkaa Go.Proofs.Ytemgehocabfbkaa.Sh Go.Proofs.Ytemgehocabfbkaa.F Go.Proofs.Ytemgehocabfbkaa.R

/-! ### NumStays -/
structure NCall where
  kind : Int
  n : Int
  most : Int
def NCall.cells (c : NCall) : List Value := [.int .i64 c.kind, .int .i64 c.n, .int .u64 c.most]
theorem NCall.cells_len (c : NCall) : c.cells.length = 3 := rfl
def NCallOk (c : NCall) : Prop := U64 c.most ∧ -9223372036854775808 ≤ c.n ∧ c.n ≤ 9223372036854775807
abbrev RdNCall := RdAgg [(1, RdInt .i64), (1, RdInt .i64), (1, RdInt .u64)]
theorem ncall_of {w : World} {cs : List Value} (h : RdNCall w cs) : ∃ c : NCall, NCallOk c ∧ cs = c.cells := by
  obtain ⟨_, _, rfl, _, ⟨n0, rfl, h0⟩, _, _, rfl, _, ⟨n1, rfl, h1⟩, _, _, rfl, _, ⟨n2, rfl, h2⟩, rfl⟩ := h
  exact ⟨⟨n0, n1, n2⟩, ⟨wf_u64 h2, wf_i64 h1⟩, rfl⟩
theorem list_of {α : Type} {f : α → List Value} {Q : World → List Value → Prop} {R : α → Prop} {B m : Nat} {w : World} {A : Option Addr} {n c : Nat} (h : RdSlice B m Q w [.slice A n c]) (hq : ∀ cs, Q w cs → ∃ x, R x ∧ cs = f x) :
    ∃ l : List α, Cs w A (l.flatMap f) ∧ n = l.length ∧ n * B ≤ 140737488351232 ∧ ∀ x ∈ l, R x := by
  obtain ⟨A', n', c', rows, e, h1, h2, h3, h4, h5⟩ := h
  cases e
  obtain ⟨l, rfl, hl⟩ := exists_map (f := f) (Q := R) (fun r hr => hq r (h5 r hr).2)
  rw [List.length_map] at h3
  exact ⟨l, by rw [List.flatMap_def]; exact h4, h3.symm, h2, hl⟩
theorem ncall_at {w : World} {A : Option Addr} {l : List NCall} (h : Cs w A (l.flatMap NCall.cells)) {k : Nat} {r : NCall} (hk : l[k]? = some r) :
    ∃ a, A = some a ∧ w.cell? (a.add (k * 3)) = some (.int .i64 r.kind) ∧ w.cell? ((a.add (k * 3)).add 1) = some (.int .i64 r.n) ∧ w.cell? ((a.add (k * 3)).add 2) = some (.int .u64 r.most) := by
  obtain ⟨a, e, hc⟩ := h.row NCall.cells_len hk (by decide)
  exact ⟨a, e, hc 0 _ rfl, hc 1 _ rfl, hc 2 _ rfl⟩
theorem RdV.under {ty : TypeId} {w w' : World} {b b0 : Nat} {p : Option Addr} {left : List Int} {err : Int} {F : Nat → Prop} (h : RdV ty w b p left err F) (hb : b0 ≤ b) (hb' : b0 ≤ w.heap.size) (k : Kp (C.pt p) w w') : Below b0 w w' :=
  k.below hb' fun i hi hp => by have := (h.lt (h.pt hp)).1; omega
theorem stays_end {w0 w : World} {b : Nat} {p : Option Addr} {bs : List Int} {fault : Int} {F : Nat → Prop} {K : Value → World → Prop} (hf : fault ≠ 0) (hR : RdV Ty.num_Reader w b p bs fault F) (hK : K (.bool true) w) : law01_NumStays.p11 K fault p w := by
  have row : ∀ (n : Int) (w : World) (K : Value → World → Prop), K (.slice none 0 0) w → CallsE Pg num_Reader_Bytes.N #[.pointer none, .int .i64 n] w K := fun n w K hk => num_Reader_Bytes.ok (condP_t hk)
  refine num_Reader_Fail.ok (condP_f ⟨rfl, ?_⟩)
  refine num_Reader_Err_c hR ⟨_, rfl, cond_eq (fun _ => ?_) (fun h => absurd rfl h)⟩
  have e1 : endV bs fault = fault := by unfold endV; rw [if_neg (fun h => hf h.1)]
  have e2 : leftV bs fault = 0 := by unfold leftV; rw [if_pos hf]
  refine num_Reader_End_c hR ⟨_, rfl, cond_eq (fun _ => ?_) (fun h => absurd e1 h)⟩
  refine num_Reader_Left_c hR ⟨_, rfl, cond_eq (fun _ => ?_) (fun h => absurd e2 h)⟩
  refine num_Reader_Var.ok (condP_t ⟨_, rfl, condP_t ?_⟩)
  refine num_Reader_Fixed.ok (num_clamp_c ⟨_, rfl, row _ _ _ ⟨_, _, _, rfl, num_Get_c (bs := []) (Cs.nil _ _) rfl (fun x hx => by cases hx) ⟨_, rfl, ⟨_, rfl, cond_eq (fun _ => ?_) (fun h => absurd (by decide) h)⟩⟩⟩⟩)
  refine num_Reader_Upto.ok (condP_t ⟨_, rfl, condP_t ?_⟩)
  refine row _ _ _ ⟨_, _, _, rfl, condP_t ?_⟩
  refine num_Reader_Left.ok (condP_t ⟨_, rfl, condP_t ?_⟩)
  refine num_Reader_Err.ok (condP_t ⟨_, rfl, condP_t ?_⟩)
  exact num_Reader_End.ok (num_Reader_Err.ok (condP_t ⟨_, rfl, condP_f (num_Reader_Err.ok (condP_t ⟨_, rfl, ⟨_, rfl, hK⟩⟩))⟩))
theorem stays_loop {w0 : World} {p : Option Addr} {bs : List Int} {fault : Int} {F : Nat → Prop} {A : Option Addr} {n c : Nat} {cl : List NCall} {K : Value → World → Prop} (hf : fault ≠ 0) (hb : Bytes bs) (hl : bs.length ≤ 140737488355328) (hx : Cs w0 A (cl.flatMap NCall.cells)) (hn : n = cl.length) (hsz : n * 24 ≤ 140737488351232) (hok : ∀ x ∈ cl, NCallOk x)
    (hK : ∀ w', Below w0.heap.size w0 w' → K (.bool true) w') : ∀ (d k : Nat) (w : World), k + d = 200 → Below w0.heap.size w0 w → RdV Ty.num_Reader w w0.heap.size p bs fault F → law01_NumStays.l0 K (d + 1) fault A n c p k w := by
  have ebo : ∀ n, bOut bs fault n = [] := fun n => by unfold bOut; rw [if_pos (.inl hf)]
  have ebe : ∀ n, bErr bs fault n = fault := fun n => by unfold bErr; rw [if_pos (.inl hf)]
  have ebl : ∀ n, bLeft bs fault n = bs := fun n => by unfold bLeft; rw [if_pos (.inl hf)]
  have evv : vVal bs fault = 0 := by unfold vVal; rw [if_pos hf]
  have eve : vErr bs fault = fault := by unfold vErr; rw [if_pos hf]
  have evl : vLeft bs fault = bs := by unfold vLeft; rw [if_pos hf]
  have efv : ∀ e, failV fault e = fault := fun e => by unfold failV; rw [if_neg hf]
  intro d
  induction d with
  | zero =>
    intro k w hk hbl hR
    rw [law01_NumStays.l0_succ]
    refine cond_dec (fun _ => ?_) (fun _ => stays_end (w0 := w0) hf hR (hK w hbl))
    rw [decide_eq_false (by omega)]
    exact stays_end (w0 := w0) hf hR (hK w hbl)
  | succ d ih =>
    intro k w hk hbl hR
    rw [law01_NumStays.l0_succ]
    refine cond_dec (fun hlt => ?_) (fun _ => stays_end (w0 := w0) hf hR (hK w hbl))
    rw [decide_eq_true (by omega)]
    have hxk : cl[k]? = some cl[k] := List.getElem?_eq_getElem (by omega)
    obtain ⟨a, rfl, c0, c1, c2⟩ := ncall_at (hx.below hbl) hxk
    have hc := hok _ (List.getElem_mem (by omega : k < cl.length))
    refine ⟨⟨by omega, by omega⟩, a, rfl, _, c1, ?_⟩
    refine num_Reader_Fixed_c hR hl hb fun w1 hR1 k1 => ⟨_, rfl, ?_⟩
    rw [ebl, ebe] at hR1
    have b1 := hbl.trans (hR.under (Nat.le_refl _) hbl.size k1)
    rw [ebo]
    refine condP_f (num_Reader_Var_c hR1 hb (by omega) fun w2 hR2 k2 => ⟨_, rfl, ?_⟩)
    rw [evl, eve] at hR2
    have b2 := b1.trans (hR1.under (Nat.le_refl _) b1.size k2)
    rw [evv]
    obtain ⟨a2, e2, d0, d1, d2⟩ := ncall_at (hx.below b2) hxk
    cases e2
    refine condP_f ⟨⟨by omega, by omega⟩, _, rfl, _, d2, ?_⟩
    have hm0 : ¬ cl[k].most < vVal bs fault := by rw [evv]; have := hc.1.1; omega
    refine num_Reader_Upto_c hR2 hb (by omega) fun w3 hR3 k3 => ⟨_, rfl, ?_⟩
    unfold uLeft uErr at hR3
    rw [if_neg hm0, if_neg hm0, evl, eve] at hR3
    have b3 := b2.trans (hR2.under (Nat.le_refl _) b2.size k3)
    unfold uVal
    rw [if_neg hm0, evv]
    obtain ⟨a3, e3, d0, d1, d2⟩ := ncall_at (hx.below b3) hxk
    cases e3
    refine condP_f ⟨⟨by omega, by omega⟩, _, rfl, _, d1, ?_⟩
    refine num_Reader_Bytes_c hR3 hl fun A4 c4 w4 hR4 o4 k4 => ⟨_, _, _, rfl, ?_⟩
    rw [ebl, ebe] at hR4
    have b4 := b3.trans (hR3.under (Nat.le_refl _) b3.size k4)
    rw [ebo]
    obtain ⟨a5, e5, d0, d1, d2⟩ := ncall_at (hx.below b4) hxk
    cases e5
    refine condP_f ⟨⟨by omega, by omega⟩, _, rfl, _, d0, ?_⟩
    refine num_Reader_Fail_c hR4 fun w5 hR5 k5 => ⟨rfl, ?_⟩
    rw [efv] at hR5
    have b5 := b4.trans (hR4.under (Nat.le_refl _) b4.size k5)
    show law01_NumStays.l0 K (d + 1) fault _ n c p (IntKind.wrap .i64 ((k : Int) + 1)) w5
    rw [cst k (by omega)]
    exact ih (k + 1) w5 (by omega) b5 hR5
theorem RdV.base {ty : TypeId} {w : World} {b b' : Nat} {p : Option Addr} {left : List Int} {err : Int} {F : Nat → Prop} (h : RdV ty w b p left err F) (hb : b' ≤ b) : RdV ty w b' p left err F := by
  obtain ⟨t, A, c, rfl, hbt, hB, hc, hx, hg, rfl⟩ := h
  exact ⟨t, A, c, rfl, Nat.le_trans hb hbt, hB, hc, hx, fun g e => ⟨Nat.le_trans hb (hg g e).1, (hg g e).2⟩, rfl⟩
theorem law_NumStays (w : World) (A : Option Addr) (m c : Nat) (bs : List Int) (hx : Cs w A (nums .u8 bs)) (hm : m = bs.length) (hw : ∀ x ∈ bs, (Lit.int .u8 x).wf = true) (hy : m * 1 ≤ 140737488351232) (hc : m ≤ c) (fault : Int) (hfw : (Lit.int .i64 fault).wf = true)
    (B : Option Addr) (nb cb : Nat) (hz : RdSlice 24 3 RdNCall w [.slice B nb cb]) : CallsE Pg law01_NumStays.N #[.slice A m c, .int .i64 fault, .slice B nb cb] w (fun v w' => v = .bool true ∧ Below w.heap.size w w') := by
  obtain ⟨cl, hz, hnb, hsb, hok⟩ := list_of (f := NCall.cells) hz (fun cs h => ncall_of h)
  refine law01_NumStays.ok (law01_alive_c fun w1 b1 => ⟨_, rfl, condP_nt ?_⟩)
  refine cond_eq (fun _ => ⟨rfl, b1⟩) (fun hf => ?_)
  refine num_Open_c (hx.below b1) hm (by omega) fun w2 p F hR b2 => ⟨_, rfl, ?_⟩
  have b2' := b1.trans (b2.mono b1.size)
  refine num_Reader_Fail_c hR fun w3 hR3 k3 => ⟨rfl, 201, ?_⟩
  have b3 := b2'.trans (hR.under b1.size b2'.size k3)
  have e : failV 0 fault = fault := by unfold failV; rw [if_pos rfl]
  rw [e] at hR3
  exact stays_loop (w0 := w) hf (bytes_wf hw) (by omega) hz hnb hsb hok (fun w' hb => ⟨rfl, hb⟩) 200 0 w3 (by omega) b3 (hR3.base b1.size)
/-! ### NumReads -/
theorem own_set1 {w : World} {base n c : Nat} {e : TypeId} {a : Addr} {cs : List Value} {k : Nat} {v : Value} {Q : World → Prop} (h : w.ownsRow base e 1 (.slice (some a) n c) n cs) (hk : k < cs.length)
    (hQ : ∀ w', w'.ownsRow base e 1 (.slice (some a) n c) n (cs.set k v) → Kp (· = a.block) w w' → w'.heap.size = w.heap.size → Q w') : canStore w (a.add k) ∧ wlet (w.setCell (a.add k) v) Q := by
  have hf : ∀ l : List Value, l.flatMap (fun x => [x]) = l := fun l => by induction l with | nil => rfl | cons x l ih => rw [List.flatMap_cons, ih]; rfl
  have := own_stores (m := 1) (f := fun x : Value => [x]) (l := cs) (k := k) (i := 0) (x := cs[k]) (y := v) (vs := [v]) (Q := Q) (by rw [hf]; exact h) (fun _ => rfl) (List.getElem?_eq_getElem hk) (Nat.le_refl 1) rfl (by rw [hf]; exact hQ)
  rw [Nat.mul_one] at this
  exact this
theorem nums_set (k : IntKind) (xs : List Int) (i : Nat) (y : Int) : (nums k xs).set i (.int k y) = nums k (xs.set i y) := by simp [nums, List.map_set]
/-- Both readers have the same left, and the same fault. -/
structure Two (w : World) (b : Nat) (p : Option Addr) (q : Addr) (left : List Int) (err : Int) : Prop where
  ex : ∃ F G : Nat → Prop, RdV Ty.num_Reader w b p left err F ∧ RdV Ty.ref01_Reader w b (some q) left err G ∧ ∀ i, F i → ¬ G i
  bytes : Bytes left
theorem Two.kp {S : Nat → Prop} {w w' : World} {b : Nat} {p : Option Addr} {q : Addr} {left : List Int} {err : Int} (h : Two w b p q left err) (k : Kp S w w') (hs : ∀ i, S i → w.heap.size ≤ i) : Two w' b p q left err := by
  obtain ⟨⟨F, G, h1, h2, h3⟩, h4⟩ := h
  exact ⟨⟨F, G, h1.kp k (fun i hi hS => by have := (h1.lt hi).2; have := hs i hS; omega), h2.kp k (fun i hi hS => by have := (h2.lt hi).2; have := hs i hS; omega), h3⟩, h4⟩
theorem reads_next {L0 : Option Addr → Nat → Nat → Option Addr → Nat → Nat → Option Addr → Nat → Nat → Option Addr → Addr → Int → World → Prop} {w : World} {b : Nat} {p : Option Addr} {q : Addr} {left : List Int} {err : Int} {A B C : Option Addr} {n c nb cb nc cc : Nat} {k : Nat} {K : Value → World → Prop} (hT : Two w b p q left err) (hk : (k : Int) + 1 ≤ 9223372036854775807)
    (next : L0 A n c B nb cb C nc cc p q ((k + 1 : Nat) : Int) w) : law01_NumReads.p12 L0 K A n c B nb cb C nc cc p q k w := by
  obtain ⟨⟨F, G, h1, h2, h3⟩, h4⟩ := hT
  obtain ⟨t, A', c', e, hbt, hB, hc, hx, hg, rfl⟩ := id h2
  cases e
  refine ⟨fun H => H = w.heap, rfl, num_Reader_Left_c h1 ⟨_, rfl, rfl, ref01_Reader_Rest_c h2 ⟨_, rfl, rfl, cond_ne (fun h => absurd rfl h) (fun _ => ⟨_, rfl, _, held (hB.cell' (j := 1) rfl), ?_⟩)⟩⟩⟩
  refine num_Reader_Err_c h1 ⟨_, rfl, rfl, cond_ne (fun h => absurd rfl h) (fun _ => ?_)⟩
  refine num_Reader_End_c h1 ⟨_, rfl, rfl, ref01_Reader_End_c h2 ⟨_, rfl, rfl, ?_⟩⟩
  have : (endV left err != endV left err) = false := by simp
  rw [this]
  show L0 A n c B nb cb C nc cc p _ (IntKind.wrap .i64 ((k : Int) + 1)) w
  rw [cst k hk]
  exact next
theorem got_loop {L0 : Option Addr → Nat → Nat → Option Addr → Nat → Nat → Option Addr → Nat → Nat → Option Addr → Addr → Int → World → Prop} {w0 : World} {p : Option Addr} {q : Addr} {A B C D : Option Addr} {n c nb cb nc cc nd cd base : Nat} {k : Nat} {K : Value → World → Prop} (hnd : nd ≤ 140737488355328)
    (hK : ∀ w', Kp (fun i => base ≤ i) w0 w' → law01_NumReads.p12 L0 K A n c B nb cb C nc cc p q k w') : ∀ (d j : Nat) (w : World) (xs : List Int), j + d = nd → Kp (fun i => base ≤ i) w0 w → w.ownsRow base Ty.uint8 1 (.slice D nd cd) nd (nums .u8 xs) → xs.length = nd →
    law01_NumReads.l1 L0 K (d + 1) A n c B nb cb C nc cc p q k D nd cd nd j w := by
  intro d
  induction d with
  | zero =>
    intro j w xs hj hk ho hl
    rw [law01_NumReads.l1_succ]
    exact cond_dec (fun h => by omega) (fun _ => hK w hk)
  | succ d ih =>
    intro j w xs hj hk ho hl
    rw [law01_NumReads.l1_succ]
    refine cond_dec (fun _ => ?_) (fun h => absurd h (by omega))
    have hxj : xs[j]? = some xs[j] := List.getElem?_eq_getElem (by omega)
    obtain ⟨a, rfl, c0⟩ := (Cs.ofOwn ho).at (nums_at hxj)
    refine ⟨⟨by omega, by omega⟩, a, rfl, _, c0, ⟨by omega, by omega⟩, a, rfl, ?_⟩
    refine own_set1 ho (by rw [nums_len]; omega) fun w' ho' hk' _ => ?_
    rw [nums_set] at ho'
    rw [cst j (by omega)]
    exact ih (j + 1) w' _ (by omega) (hk.trans hk' (fun _ _ h => h) (fun i _ e => by rw [e]; exact (own_lt ho rfl).1)) ho' (by simpa using hl)
theorem reads_loop {w0 wi : World} {p : Option Addr} {q : Addr} {A B C : Option Addr} {n c nb cb nc cc : Nat} {cl : List NCall} {bs : List Int} {K : Value → World → Prop} (hb : Bytes bs) (hA : Cs w0 A (nums .u8 bs)) (hn : n = bs.length) (hC : Cs wi C (nums .u8 bs)) (hnc : nc = bs.length) (h0i : Below w0.heap.size w0 wi)
    (hx : Cs w0 B (cl.flatMap NCall.cells)) (hnb : nb = cl.length) (hsz : nb * 24 ≤ 140737488351232) (hok : ∀ x ∈ cl, NCallOk x)
    (hK : ∀ w', Below w0.heap.size w0 w' → K (.bool true) w') : ∀ (d k : Nat) (w : World) (left : List Int) (err : Int), k + d = 200 → Below wi.heap.size wi w → Two w wi.heap.size p q left err → left.length ≤ 140737488351232 → law01_NumReads.l0 K (d + 1) A n c B nb cb C nc cc p q k w := by
  have fin : ∀ w, Below wi.heap.size wi w → law01_NumReads.p22 K A n c C nc cc w := fun w hbl => by
    have hw := h0i.trans (hbl.mono h0i.size)
    exact ref01_Same_c (hC.below hbl) (hA.below hw) hnc hn hb ⟨_, rfl, hK w hw⟩
  intro d
  induction d with
  | zero =>
    intro k w left err hk hbl hT hl
    rw [law01_NumReads.l0_succ]
    refine cond_dec (fun _ => ?_) (fun _ => fin w hbl)
    rw [decide_eq_false (by omega)]
    exact fin w hbl
  | succ d ih =>
    intro k w left err hk hbl hT hl
    rw [law01_NumReads.l0_succ]
    refine cond_dec (fun hlt => ?_) (fun _ => fin w hbl)
    rw [decide_eq_true (by omega)]
    have hw := h0i.trans (hbl.mono h0i.size)
    have hxk : cl[k]? = some cl[k] := List.getElem?_eq_getElem (by omega)
    obtain ⟨a, rfl, c0, c1, c2⟩ := ncall_at (hx.below hw) hxk
    have hc := hok _ (List.getElem_mem (by omega : k < cl.length))
    generalize cl[k] = cv at c0 c1 c2 hc
    refine ⟨⟨by omega, by omega⟩, a, rfl, _, c0, _, c1, _, c2, ?_⟩
    refine fresh (vs := cv.cells) rfl fun w1 hB b1 _ => ?_
    have hbl1 := hbl.trans (b1.mono hbl.size)
    obtain ⟨⟨F, G, r1, r2, hd⟩, hby⟩ := hT
    have s1 := r1.below b1
    have s2 := r2.below b1
    have d0 := hB.cell' (j := 0) rfl
    have nF : ∀ i, F i → i ≠ w.heap.size := fun i hi => by have := (r1.lt hi).2; omega
    have nG : ∀ i, G i → i ≠ w.heap.size := fun i hi => by have := (r2.lt hi).2; omega
    have next : ∀ w' left' err', Below wi.heap.size wi w' → Two w' wi.heap.size p q left' err' → left'.length ≤ 140737488351232 → law01_NumReads.p12 (law01_NumReads.l0 K (d + 1)) K A n c (some a) nb cb C nc cc p q k w' := fun w' left' err' h1 h2 h3 =>
      reads_next h2 (by omega) (ih (k + 1) w' left' err' (by omega) h1 h2 h3)
    /- both readers, one call each -/
    have both : ∀ (w2 w3 : World) (l' : List Int) (e' : Int), RdV Ty.num_Reader w2 wi.heap.size p l' e' F → Kp (pt p) w1 w2 → RdV Ty.ref01_Reader w3 wi.heap.size (some q) l' e' G → Kp (pt (some q)) w2 w3 → Bytes l' → Two w3 wi.heap.size p q l' e' ∧ Below wi.heap.size wi w3 := fun w2 w3 l' e' t1 k1 t2 k2 hb' => by
      have hb2 := hbl1.trans (s1.under (Nat.le_refl _) hbl1.size k1)
      have s2' := s2.kp k1 (fun i hi hp => hd i (s1.pt hp) hi)
      refine ⟨⟨⟨F, G, t1.kp k2 (fun i hi hp => hd i hi (s2'.pt hp)), t2, hd⟩, hb'⟩, hb2.trans (s2'.under (Nat.le_refl _) hb2.size k2)⟩
    have kpC : ∀ {w2 : World}, Kp (pt p) w1 w2 → Blk w2 w.heap.size Ty.law01_Call cv.cells := fun k1 => hB.kp k1 (fun hp => nF _ (r1.pt hp) rfl)
    have kpC2 : ∀ {w2 w3 : World}, Blk w2 w.heap.size Ty.law01_Call cv.cells → Kp (pt (some q)) w2 w3 → Blk w3 w.heap.size Ty.law01_Call cv.cells := fun h k1 => h.kp k1 (fun hp => nG _ (r2.pt hp) rfl)
    have kp2 : ∀ {w2 : World}, Kp (pt p) w1 w2 → RdV Ty.ref01_Reader w2 wi.heap.size (some q) left err G := fun k1 => s2.kp k1 (fun i hi hp => hd i (s1.pt hp) hi)
    have heldC : ∀ (j : Nat) (v : Value), cv.cells[j]? = some v → ∀ w' : World, w'.heap[w.heap.size]? = some (.cells ⟨cv.cells⟩ Ty.law01_Call (0, 0)) → w'.cell? ⟨w.heap.size, j, none⟩ = some v := fun j v hv w' h' => Blk.cell' (show Blk w' w.heap.size Ty.law01_Call cv.cells from h') hv
    refine ⟨_, d0, ?_⟩
    show law01_NumReads.p10 (law01_NumReads.l0 K (d + 1)) K A n c (some a) nb cb C nc cc p q k ⟨w.heap.size, 0, none⟩ cv.kind (cv.kind == (1 : Int)) w1
    refine cond_eq (fun _ => ?_) (fun n1 => cond_eq (fun _ => ?_) (fun n2 => cond_eq (fun _ => ?_) (fun n3 => cond_eq (fun _ => ?_) (fun n4 => cond_eq (fun _ => ?_) (fun n5 => ?_)))))
    · refine ⟨fun H => H[w.heap.size]? = some (.cells ⟨cv.cells⟩ Ty.law01_Call (0, 0)), hB, _, heldC 1 _ rfl, _, heldC 1 _ rfl, ?_⟩
      refine num_Reader_Fixed_c s1 (by omega) hby fun w2 t1 k1 => ⟨_, rfl, kpC k1, ?_⟩
      refine ref01_Reader_Fixed_c (kp2 k1) (by omega) hby fun w3 t2 k2 => ⟨_, rfl, kpC2 (kpC k1) k2, ?_⟩
      obtain ⟨hT3, hb3⟩ := both w2 w3 _ _ t1 k1 t2 k2 (bLeft_bytes hby)
      have : (getV (bOut left err (widthV cv.n)) != getV (bOut left err (widthV cv.n))) = false := by simp
      rw [this]
      exact next w3 _ _ hb3 hT3 (Nat.le_trans bLeft_len hl)
    · refine num_Reader_Var_c s1 hby (by omega) fun w2 t1 k1 => ⟨_, rfl, ?_⟩
      refine ref01_Reader_Var_c (kp2 k1) hby (by omega) fun w3 t2 k2 => ⟨_, rfl, cond_ne (fun h => absurd rfl h) (fun _ => ?_)⟩
      obtain ⟨hT3, hb3⟩ := both w2 w3 _ _ t1 k1 t2 k2 (vLeft_bytes hby)
      exact next w3 _ _ hb3 hT3 (Nat.le_trans vLeft_len hl)
    · refine ⟨fun H => H[w.heap.size]? = some (.cells ⟨cv.cells⟩ Ty.law01_Call (0, 0)), hB, _, heldC 2 _ rfl, _, heldC 2 _ rfl, ?_⟩
      refine num_Reader_Upto_c s1 hby (by omega) fun w2 t1 k1 => ⟨_, rfl, kpC k1, ?_⟩
      refine ref01_Reader_Upto_c (kp2 k1) hby (by omega) hc.1.1 fun w3 t2 k2 => ⟨_, rfl, kpC2 (kpC k1) k2, ?_⟩
      obtain ⟨hT3, hb3⟩ := both w2 w3 _ _ t1 k1 t2 k2 (uLeft_bytes hby)
      have : (uVal left err cv.most != uVal left err cv.most) = false := by simp
      rw [this]
      exact next w3 _ _ hb3 hT3 (Nat.le_trans uLeft_len hl)
    · refine ⟨_, hB.cell' (j := 1) rfl, num_Reader_Bytes_c s1 (by omega) fun A2 c2' w2 t1 o1 k1 => ⟨_, _, _, rfl, ?_⟩⟩
      refine ⟨_, (kpC k1).cell' (j := 1) rfl, ref01_Reader_Bytes_c (kp2 k1) (by omega) fun A3 c3 w3 t2 o2 k2 => ⟨_, _, _, rfl, ?_⟩⟩
      obtain ⟨hT3, hb3⟩ := both w2 w3 _ _ t1 k1 t2 k2 (bLeft_bytes hby)
      have o1' := own_kp o1 k2 (fun g hg hp => by have := (own_lt o1 hg).1; have := (s2.lt (s2.pt hp)).2; omega)
      refine ref01_Same_c (Cs.ofOwn o1') (Cs.ofOwn o2) rfl rfl (bOut_bytes hby) ⟨_, rfl, condP_nt ⟨(bOut left err cv.n).length + 1, ?_⟩⟩
      refine got_loop (base := w1.heap.size) (w0 := w3) (Nat.le_trans bOut_len (by omega)) (fun w4 k4 => ?_) _ 0 w3 _ (by omega) (Kp.refl _ _) o1' rfl
      have s2' := s2.kp k1 (fun i hi hp => hd i (s1.pt hp) hi)
      have hT4 : Two w4 wi.heap.size p q (bLeft left err cv.n) (bErr left err cv.n) :=
        ⟨⟨F, G, (t1.kp k2 (fun i hi hp => hd i hi (s2'.pt hp))).kp k4 (fun i hi h => by have := (s1.lt hi).2; omega), t2.kp k4 (fun i hi h => by have := (s2.lt hi).2; omega), hd⟩, bLeft_bytes hby⟩
      exact next w4 _ _ (hb3.trans (k4.below hb3.size fun i hi h => by have := hbl1.size; omega)) hT4 (Nat.le_trans bLeft_len hl)
    · refine ⟨_, hB.cell' (j := 1) rfl, num_Reader_Fail_c s1 fun w2 t1 k1 => ⟨rfl, ?_⟩⟩
      refine ⟨_, (kpC k1).cell' (j := 1) rfl, ref01_Reader_Fail_c (kp2 k1) fun w3 t2 k2 => ⟨rfl, ?_⟩⟩
      obtain ⟨hT3, hb3⟩ := both w2 w3 _ _ t1 k1 t2 k2 hby
      exact next w3 _ _ hb3 hT3 hl
    · exact next w1 _ _ hbl1 ⟨⟨F, G, s1, s2, hd⟩, hby⟩ hl
theorem law_NumReads (w : World) (A : Option Addr) (m c : Nat) (bs : List Int) (hx : Cs w A (nums .u8 bs)) (hm : m = bs.length) (hw : ∀ x ∈ bs, (Lit.int .u8 x).wf = true) (hy : m * 1 ≤ 140737488351232) (hc : m ≤ c)
    (B : Option Addr) (nb cb : Nat) (hz : RdSlice 24 3 RdNCall w [.slice B nb cb]) : CallsE Pg law01_NumReads.N #[.slice A m c, .slice B nb cb] w (fun v w' => v = .bool true ∧ Below w.heap.size w w') := by
  obtain ⟨cl, hz, hnb, hsb, hok⟩ := list_of (f := NCall.cells) hz (fun cs h => ncall_of h)
  have hb := bytes_wf hw
  refine law01_NumReads.ok (law01_alive_c fun w1 b1 => ⟨_, rfl, condP_nt ?_⟩)
  refine ref01_Copy_c (hx.below b1) hm (by omega) fun A2 c2 w2 o2 b2 => ⟨_, _, _, rfl, ?_⟩
  have b2' := b1.trans (b2.mono b1.size)
  refine num_Open_c (Cs.ofOwn o2) hm (by omega) fun w3 p F hR b3 => ⟨_, rfl, ?_⟩
  have b3' := b2'.trans (b3.mono b2'.size)
  refine ref01_Copy_c (hx.below b3') hm (by omega) fun A4 c4 w4 o4 b4 => ⟨_, _, _, rfl, wlet_intro fun w5 h5 => ?_⟩
  have hal : Below w4.heap.size w4 w5 := by rw [h5]; exact (Below.refl _ _).alloc (Nat.le_refl _) _
  have hB : Blk w5 w4.heap.size Ty.ref01_Reader [.slice A4 m c4, .int .i64 0] := by rw [h5]; exact Blk.new w4 Ty.ref01_Reader _
  clear h5
  have b25 : Below w2.heap.size w2 w5 := b3.trans ((b4.trans (hal.mono b4.size)).mono b3.size)
  have hR5 := (hR.below b4).below hal
  have ho5 := own_below_kp o4 hal
  have hmc : m ≤ c4 := by obtain ⟨_, _, e, h, _⟩ := own_form o4; cases e; exact h
  refine ⟨201, reads_loop (w0 := w) (wi := w2) hb hx hm (Cs.ofOwn o2) hm b2' hz hnb hsb hok (fun w' h => ⟨rfl, h⟩) 200 0 w5 bs 0 (by omega) b25 ⟨⟨F, fun i => i = w4.heap.size ∨ A4.map (·.block) = some i, hR5, ⟨w4.heap.size, A4, c4, rfl, Nat.le_trans b3.size b4.size, by rw [← hm]; exact hB, by omega, Cs.ofOwn ho5, fun g hg => ?_, rfl⟩, fun i hi hg => ?_⟩, hb⟩ (by omega)⟩
  · cases A4 with
    | none => cases hg
    | some a =>
      have := own_lt o4 (g := g) hg
      have := b3.size
      have := b4.size
      have := hal.size
      exact ⟨by omega, by omega, by omega⟩
  · have h1 := (hR.lt hi).2
    rcases hg with rfl | hg
    · have := b4.size; omega
    · cases A4 with
      | none => cases hg
      | some a => have := (own_lt o4 (g := i) hg).1; omega

end Go.Proofs.Ytemgehocabfbkaa.C
