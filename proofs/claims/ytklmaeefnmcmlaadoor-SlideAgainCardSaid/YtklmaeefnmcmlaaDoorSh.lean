/-
  A shallow reading of the code: what each operation must find and leave, in plain propositions, and that the machine then comes there. Over any program; no condition.
-/
import Derived.WalkKit
import Derived.Deep.Quiet
import Derived.OrdersHeld
import Derived.LoopN
import Derived.KernelRfl
import Derived.Laws.MakeOwn
import Derived.Laws.Slices
import Derived.Below
import Derived.Scope
import Derived.Laws.AppendOwn
import Derived.Laws.CopyOwn
import Derived.Laws.StructEq
set_option linter.unusedVariables false
set_option linter.unusedSimpArgs false
namespace Go.Proofs.YtklmaeefnmcmlaaDoor.Sh
open Go Go.RowKit

/-! ### 1. Frames as functions -/
abbrev Fr := Nat → Value
def junk : Value := .tuple #[.tuple #[]]
def isJunk : Value → Bool
  | .tuple ⟨.tuple _ :: _⟩ => true
  | _ => false
def nj (v : Value) : Bool := !isJunk v
def upd (σ : Fr) (d : Nat) (v : Value) : Fr := fun t => bif Nat.beq t d then v else σ t
def updo (σ : Fr) (d : Option Tmp) (v : Value) : Fr := match d with
  | some d => upd σ d v
  | none => σ
def ev (σ : Fr) : Operand → Value
  | .tmp t => σ t
  | .const v => v
  | .global g => .pointer (some ⟨g, 0, none⟩)
  | .func f => .func (.func f) #[] #[]
/-- What σ tells of the temporaries is so. -/
def Le (σ : Fr) (tmps : Array Value) : Prop := ∀ t, isJunk (σ t) = true ∨ tmps[t]? = some (σ t)
def dstOk (n : Nat) : Option Tmp → Bool
  | some d => Nat.blt d n
  | none => true

theorem upd_self {σ : Fr} {d : Nat} {v : Value} : upd σ d v d = v := by simp [upd]
theorem Le.put {σ : Fr} {a : Act} {n : Nat} (h : Le σ a.tmps) (hn : a.tmps.size = n) {d : Option Tmp} (hd : dstOk n d = true) (v : Value) : Le (updo σ d v) (a.put d v).tmps := by
  cases d with
  | none => exact h
  | some d =>
    simp only [dstOk] at hd
    have hd' : d < n := by simpa [Nat.blt_eq] using hd
    intro t
    simp only [updo, upd, Act.put]
    by_cases e : t = d
    · subst e
      right
      simp [hn, hd']
    · have e1 : Nat.beq t d = false := by
        cases hb : Nat.beq t d with
        | false => rfl
        | true => exact absurd (Nat.eq_of_beq_eq_true hb) e
      rw [e1]
      rcases h t with h1 | h1
      · exact .inl h1
      · right
        simp only [cond_false]
        rw [Array.getElem?_setIfInBounds_ne (Ne.symm e)]
        exact h1
theorem Le.put_junk {σ : Fr} {a : Act} {n : Nat} (h : Le σ a.tmps) (d : Nat) (hn : a.tmps.size = n) (hd : dstOk n (some d) = true) (v u : Value) (hu : isJunk u = true) : Le (upd σ d u) (a.put (some d) v).tmps := by
  intro t
  simp only [upd, Act.put]
  by_cases e : t = d
  · subst e
    left
    simpa using hu
  · have e1 : Nat.beq t d = false := by
      cases hb : Nat.beq t d with
      | false => rfl
      | true => exact absurd (Nat.eq_of_beq_eq_true hb) e
    rw [e1]
    rcases h t with h1 | h1
    · exact .inl h1
    · right
      simp only [cond_false]
      rw [Array.getElem?_setIfInBounds_ne (Ne.symm e)]
      exact h1
theorem size_put (a : Act) (d : Option Tmp) (v : Value) : (a.put d v).tmps.size = a.tmps.size := by
  cases d <;> simp [Act.put]
theorem defers_put (a : Act) (d : Option Tmp) (v : Value) : (a.put d v).defers = a.defers := by
  cases d <;> rfl
theorem ev_eq {σ : Fr} {a : Act} (h : Le σ a.tmps) {x : Operand} (hx : isJunk (ev σ x) = false) : a.eval x = ev σ x := by
  cases x with
  | tmp t =>
    simp only [ev] at hx ⊢
    rcases h t with h1 | h1
    · rw [h1] at hx; cases hx
    · simp [Act.eval, Array.getD_eq_getD_getElem?, h1]
  | const v => rfl
  | global g => rfl
  | func f => rfl

/-! ### 2. Worlds up to draws -/
structure Eqv (w1 w : World) : Prop where
  heap : w1.heap = w.heap
  tape : w1.tape = w.tape
  os : w1.os = w.os
  output : w1.output = w.output
theorem Eqv.refl (w : World) : Eqv w w := ⟨rfl, rfl, rfl, rfl⟩
theorem Eqv.trans {a b c : World} (h : Eqv a b) (k : Eqv b c) : Eqv a c := ⟨h.heap.trans k.heap, h.tape.trans k.tape, h.os.trans k.os, h.output.trans k.output⟩
theorem Eqv.symm {a b : World} (h : Eqv a b) : Eqv b a := ⟨h.heap.symm, h.tape.symm, h.os.symm, h.output.symm⟩
theorem Eqv.drew {a b : World} (h : Eqv a b) : Eqv a.drew b := ⟨h.heap, h.tape, h.os, h.output⟩
theorem Eqv.drawn {a b : World} (h : Eqv a b) (n : Nat) : Eqv { a with drawn := n } b := ⟨h.heap, h.tape, h.os, h.output⟩
theorem Eqv.alloc {a b : World} (h : Eqv a b) (o : Obj) : Eqv (a.alloc o) (b.alloc o) := ⟨by show a.heap.push o = b.heap.push o; rw [h.heap], h.tape, h.os, h.output⟩
theorem Eqv.setCell {a b : World} (h : Eqv a b) (p : Addr) (v : Value) : Eqv (a.setCell p v) (b.setCell p v) := ⟨by simp [World.setCell, h.heap], h.tape, h.os, h.output⟩
theorem Eqv.cell? {a b : World} (h : Eqv a b) (p : Addr) : a.cell? p = b.cell? p := by simp [World.cell?, h.heap]
theorem Eqv.frozen? {a b : World} (h : Eqv a b) (p : Addr) : a.frozen? p = b.frozen? p := by simp [World.frozen?, h.heap]
theorem Eqv.below {B : Nat} {w w1 w' : World} (h : Below B w w1) (k : Eqv w' w1) : Below B w w' :=
  ⟨k.os.trans h.os, k.tape.trans h.tape, k.output.trans h.output, by rw [k.heap]; exact h.size, fun i hi => by rw [k.heap]; exact h.block i hi⟩

/-! ### 3. Judgements -/
/-- A call, worlds up to draws. -/
def CallsE (P : Program) (f : FuncId) (args : Array Value) (w : World) (K : Value → World → Prop) : Prop :=
  ∀ w1, Eqv w1 w → Calls P f args w1 (fun e w1' => ∃ v w', e = .returned v ∧ Eqv w1' w' ∧ K v w')
theorem CallsE.mono {P : Program} {f : FuncId} {args : Array Value} {w : World} {K K' : Value → World → Prop} (h : CallsE P f args w K) (hk : ∀ v w', K v w' → K' v w') : CallsE P f args w K' :=
  fun w1 he => (h w1 he).mono fun e w1' ⟨v, w', h1, h2, h3⟩ => ⟨v, w', h1, h2, hk _ _ h3⟩
def UponE (P : Program) (K : Value → World → Prop) : Result Next → Prop
  | .ok (.value v) w1' => ∃ w', Eqv w1' w' ∧ K v w'
  | .ok .skip w1' => ∃ w', Eqv w1' w' ∧ K undef w'
  | .ok (.enter f args) w1' => ∃ w', Eqv w1' w' ∧ CallsE P f args w' K
  | _ => False
/-- An operation, its operands' values told by ρ. -/
def OJ (P : Program) (ρ : Operand → Value) (o : Oper) (K : Value → World → Prop) (w : World) : Prop :=
  ∀ w1, Eqv w1 w → UponE P K ((execOp ρ o).run P w1)
/-- A computation that yields a value. -/
def SemJ (P : Program) {α : Type} (s : Sem α) (K : α → World → Prop) (w : World) : Prop :=
  ∀ w1, Eqv w1 w → ∃ v w1' w', s.run P w1 = .ok v w1' ∧ Eqv w1' w' ∧ K v w'
theorem SemJ.mono {P : Program} {α : Type} {s : Sem α} {K K' : α → World → Prop} {w : World} (h : SemJ P s K w) (hk : ∀ v w', K v w' → K' v w') : SemJ P s K' w :=
  fun w1 he => let ⟨v, w1', w', h1, h2, h3⟩ := h w1 he; ⟨v, w1', w', h1, h2, hk _ _ h3⟩
def Lift (n : Nat) (Q : Exit → Fr → World → Prop) (e : Exit) (a : Act) (w1 : World) : Prop :=
  a.defers = [] ∧ a.tmps.size = n ∧ ∃ σ w, Le σ a.tmps ∧ Eqv w1 w ∧ Q e σ w
def JO (P : Program) (n : Nat) (ops : Array Oper) (l : List Nat) (Q : Exit → Fr → World → Prop) (σ : Fr) (w : World) : Prop :=
  ∀ a w1, a.defers = [] → a.tmps.size = n → Le σ a.tmps → Eqv w1 w → wpOps P ops (Lift n Q) l a w1
def J (P : Program) (n : Nat) (c : Code) (Q : Exit → Fr → World → Prop) (σ : Fr) (w : World) : Prop :=
  ∀ a w1, a.defers = [] → a.tmps.size = n → Le σ a.tmps → Eqv w1 w → c.wp P (Lift n Q) a w1

def Sub (σ' σ : Fr) : Prop := ∀ t, isJunk (σ' t) = true ∨ σ' t = σ t
theorem Le.sub {σ' σ : Fr} {tmps : Array Value} (h : Le σ tmps) (k : Sub σ' σ) : Le σ' tmps := fun t => by
  rcases k t with h1 | h1
  · exact .inl h1
  · rcases h t with h2 | h2
    · exact .inl (by rw [h1]; exact h2)
    · exact .inr (by rw [h1]; exact h2)
theorem J.sub {P : Program} {n : Nat} {c : Code} {Q : Exit → Fr → World → Prop} {σ' σ : Fr} {w : World} (h : J P n c Q σ' w) (k : Sub σ' σ) : J P n c Q σ w :=
  fun a w1 h1 h2 h3 h4 => h a w1 h1 h2 (h3.sub k) h4
theorem Sub.base (σ : Fr) : Sub (fun _ => junk) σ := fun _ => .inl rfl
theorem Sub.upd {σ' σ : Fr} (h : Sub σ' σ) {d : Nat} {v : Value} (hv : σ d = v) : Sub (upd σ' d v) σ := fun t => by
  simp only [Sh.upd]
  by_cases e : t = d
  · subst e
    simp [hv]
  · have e1 : Nat.beq t d = false := by
      cases hb : Nat.beq t d with
      | false => rfl
      | true => exact absurd (Nat.eq_of_beq_eq_true hb) e
    rw [e1]
    exact h t

theorem J.mono {P : Program} {n : Nat} {c : Code} {Q Q' : Exit → Fr → World → Prop} {σ : Fr} {w : World} (h : J P n c Q σ w) (k : ∀ e σ w, Q e σ w → Q' e σ w) : J P n c Q' σ w :=
  fun a w1 h1 h2 h3 h4 => wp_mono (h a w1 h1 h2 h3 h4) fun e a' w' ⟨p1, p2, σ', w'', p3, p4, p5⟩ => ⟨p1, p2, σ', w'', p3, p4, k _ _ _ p5⟩

def Qthen (N : Fr → World → Prop) (Q : Exit → Fr → World → Prop) : Exit → Fr → World → Prop
  | .normal, σ, w => N σ w
  | e, σ, w => Q e σ w
def Qblock (id : Nat) (Q : Exit → Fr → World → Prop) : Exit → Fr → World → Prop
  | .exit id', σ, w => bif Nat.beq id' id then Q .normal σ w else Q (.exit id') σ w
  | e, σ, w => Q e σ w

section rules
variable {P : Program} {n : Nat} {Q : Exit → Fr → World → Prop} {σ : Fr} {w : World}
theorem J_skip (h : Q .normal σ w) : J P n .skip Q σ w := fun a w1 h1 h2 h3 h4 => wp_skip ⟨h1, h2, σ, w, h3, h4, h⟩
theorem J_exit {id : Nat} (h : Q (.exit id) σ w) : J P n (.exit id) Q σ w := fun a w1 h1 h2 h3 h4 => wp_exit ⟨h1, h2, σ, w, h3, h4, h⟩
theorem J_ret (h : Q .ret σ w) : J P n .ret Q σ w := fun a w1 h1 h2 h3 h4 => wp_ret ⟨h1, h2, σ, w, h3, h4, h⟩
theorem J_seq (N : Fr → World → Prop) {x y : Code} (h : J P n x (Qthen N Q) σ w) (k : ∀ σ' w', N σ' w' → J P n y Q σ' w') : J P n (.seq x y) Q σ w :=
  fun a w1 h1 h2 h3 h4 => wp_seq (wp_mono (h a w1 h1 h2 h3 h4) fun e a' w1' ⟨p1, p2, σ', w', p3, p4, p5⟩ => by
    cases e with
    | normal => exact k σ' w' p5 a' w1' p1 p2 p3 p4
    | exit id => exact ⟨p1, p2, σ', w', p3, p4, p5⟩
    | goto l => exact ⟨p1, p2, σ', w', p3, p4, p5⟩
    | ret => exact ⟨p1, p2, σ', w', p3, p4, p5⟩
    | panic c => exact ⟨p1, p2, σ', w', p3, p4, p5⟩
    | outgrown => exact ⟨p1, p2, σ', w', p3, p4, p5⟩)
theorem J_block {id : Nat} {c : Code} (h : J P n c (Qblock id Q) σ w) : J P n (.block id c) Q σ w :=
  fun a w1 h1 h2 h3 h4 => wp_block (wp_mono (h a w1 h1 h2 h3 h4) fun e a' w1' ⟨p1, p2, σ', w', p3, p4, p5⟩ => by
    cases e with
    | exit id' =>
      simp only [Exit.inBlock, Qblock] at p5 ⊢
      by_cases e : id' = id
      · subst e
        simp at p5 ⊢
        exact ⟨p1, p2, σ', w', p3, p4, p5⟩
      · rw [if_neg e]
        have e1 : Nat.beq id' id = false := by
          cases hb : Nat.beq id' id with
          | false => rfl
          | true => exact absurd (Nat.eq_of_beq_eq_true hb) e
        rw [e1] at p5
        exact ⟨p1, p2, σ', w', p3, p4, p5⟩
    | normal => exact ⟨p1, p2, σ', w', p3, p4, p5⟩
    | goto l => exact ⟨p1, p2, σ', w', p3, p4, p5⟩
    | ret => exact ⟨p1, p2, σ', w', p3, p4, p5⟩
    | panic c => exact ⟨p1, p2, σ', w', p3, p4, p5⟩
    | outgrown => exact ⟨p1, p2, σ', w', p3, p4, p5⟩)
theorem J_loop (I : Nat → Fr → World → Prop) {c : Code} (h0 : ∃ k, I k σ w) (hz : ∀ σ w, ¬ I 0 σ w) (h : ∀ k σ w, I (k + 1) σ w → J P n c (Qthen (I k) Q) σ w) : J P n (.loop c) Q σ w := by
  obtain ⟨k, hk⟩ := h0
  intro a w1 h1 h2 h3 h4
  refine wp_loop_rounds k ?_
  have key : ∀ k (a : Act) (w1 : World) (σ : Fr) (w : World), a.defers = [] → a.tmps.size = n → Le σ a.tmps → Eqv w1 w → I k σ w → Code.rounds P c (Lift n Q) k a w1 := by
    intro k
    induction k with
    | zero => intro a w1 σ w _ _ _ _ hi; exact absurd hi (hz σ w)
    | succ k ih =>
      intro a w1 σ w h1 h2 h3 h4 hi
      rw [rounds_succ]
      refine wp_mono (h k σ w hi a w1 h1 h2 h3 h4) fun e a' w1' ⟨p1, p2, σ', w', p3, p4, p5⟩ => ?_
      cases e with
      | normal => exact ih a' w1' σ' w' p1 p2 p3 p4 p5
      | exit id => exact ⟨p1, p2, σ', w', p3, p4, p5⟩
      | goto l => exact ⟨p1, p2, σ', w', p3, p4, p5⟩
      | ret => exact ⟨p1, p2, σ', w', p3, p4, p5⟩
      | panic c => exact ⟨p1, p2, σ', w', p3, p4, p5⟩
      | outgrown => exact ⟨p1, p2, σ', w', p3, p4, p5⟩
  exact key k a w1 σ w h1 h2 h3 h4 hk
def condP : Bool → Prop → Prop → Prop
  | true, A, _ => A
  | false, _, B => B
theorem J_cond {c : Operand} {x y : Code} {b : Bool} (hb : ev σ c = .bool b) (h : condP b (J P n x Q σ w) (J P n y Q σ w)) : J P n (.cond c x y) Q σ w := by
  intro a w1 h1 h2 h3 h4
  have he : a.eval c = .bool b := by rw [ev_eq h3 (by rw [hb]; rfl)]; exact hb
  cases b with
  | true => exact wp_cond_true he (h a w1 h1 h2 h3 h4)
  | false => exact wp_cond_false he (h a w1 h1 h2 h3 h4)
end rules

/-! ### 4. Operations: what each must find, and what it leaves -/
theorem SemJ.pure {P : Program} {α : Type} {v : α} {K : α → World → Prop} {w : World} (h : K v w) : SemJ P (Pure.pure v : Sem α) K w :=
  fun w1 he => ⟨v, w1, w, rfl, he, h⟩
theorem SemJ.ok {P : Program} {α : Type} {s : Sem α} {v : α} {K : α → World → Prop} {w : World} (hr : ∀ w1, Eqv w1 w → s.run P w1 = .ok v w1) (h : K v w) : SemJ P s K w :=
  fun w1 he => ⟨v, w1, w, hr w1 he, he, h⟩
theorem SemJ.bind {P : Program} {α β : Type} {s : Sem α} {f : α → Sem β} {K : β → World → Prop} {w : World} (h : SemJ P s (fun a w' => SemJ P (f a) K w') w) : SemJ P (s >>= f) K w := by
  intro w1 he
  obtain ⟨a, w1', w', h1, h2, h3⟩ := h w1 he
  obtain ⟨b, w1'', w'', h4, h5, h6⟩ := h3 w1' h2
  exact ⟨b, w1'', w'', by rw [Sem.run_bind, h1]; exact h4, h5, h6⟩
theorem SemJ.under {P : Program} {t : TypeId} {d : TypeDesc} {K : TypeDesc → World → Prop} {w : World} (hd : P.underlying t = some d) (h : K d w) : SemJ P (underlying t) K w :=
  SemJ.ok (fun w1 _ => run_underlying hd w1) h
theorem run_info {P : Program} {t : TypeId} {i : TypeInfo} (h : P.info? t = some i) (w : World) : (typeInfo t).run P w = .ok i w := by simp [typeInfo, h]
theorem SemJ.info {P : Program} {t : TypeId} {i : TypeInfo} {K : TypeInfo → World → Prop} {w : World} (hd : P.info? t = some i) (h : K i w) : SemJ P (typeInfo t) K w :=
  SemJ.ok (fun w1 _ => run_info hd w1) h
theorem SemJ.size {P : Program} {t : TypeId} {i : TypeInfo} {K : Nat → World → Prop} {w : World} (hd : P.info? t = some i) (h : K i.size w) : SemJ P (sizeOf t) K w :=
  SemJ.bind (SemJ.info hd (SemJ.pure h))
theorem SemJ.zero {P : Program} {t : TypeId} {i : TypeInfo} {z : Value} {K : Value → World → Prop} {w : World} (hd : P.info? t = some i) (hz : i.zero = some z) (h : K z w) : SemJ P (zeroValue t) K w :=
  SemJ.bind (SemJ.info hd (by rw [hz]; exact SemJ.pure h))
theorem SemJ.load {P : Program} {a : Addr} {m : Mode} {v : Value} {K : Value → World → Prop} {w : World} (hc : w.cell? a = some v) (h : K v w) : SemJ P (Go.load a m) K w :=
  SemJ.ok (fun w1 he => by rw [run_load, he.cell?, hc]) h
theorem SemJ.new {P : Program} {o : Obj} {K : Nat → World → Prop} {w : World} (h : K w.heap.size (w.alloc o)) : SemJ P (newObj o) K w :=
  fun w1 he => ⟨w1.heap.size, _, w.alloc o, run_newObj P w1 o, he.alloc o, by rw [he.heap]; exact h⟩

/-- One cell of z's kind is read. -/
def cellK (z : Value) (w : World) (a : Addr) (K : Value → Prop) : Prop :=
  match z with
  | .int k _ => ∃ n, w.cell? a = some (.int k n) ∧ K (.int k n)
  | .bool _ => ∃ b, w.cell? a = some (.bool b) ∧ K (.bool b)
  | .string _ => ∃ s, w.cell? a = some (.string s) ∧ K (.string s)
  | .slice _ _ _ => ∃ A n c, w.cell? a = some (.slice A n c) ∧ K (.slice A n c)
  | .pointer _ => ∃ p, w.cell? a = some (.pointer p) ∧ K (.pointer p)
  | .map _ => ∃ m, w.cell? a = some (.map m) ∧ K (.map m)
  | .nilFunc => ∃ g c, w.cell? a = some (.func (.func g) #[] c) ∧ K (.func (.func g) #[] c)
  | _ => ∃ v, w.cell? a = some v ∧ K v
theorem cellK_elim {z : Value} {w : World} {a : Addr} {K : Value → Prop} (h : cellK z w a K) : ∃ v, w.cell? a = some v ∧ K v := by
  unfold cellK at h
  split at h
  case h_4 => obtain ⟨A, n, c, h⟩ := h; exact ⟨_, h⟩
  case h_7 => obtain ⟨A, n, h⟩ := h; exact ⟨_, h⟩
  all_goals (obtain ⟨x, h⟩ := h; exact ⟨_, h⟩)
def cellsK (w : World) (a : Addr) : List Value → Nat → (List Value → Prop) → Prop
  | [], _, K => K []
  | z :: zs, i, K => cellK z w (a.add i) fun v => cellsK w a zs (i + 1) fun vs => K (v :: vs)
theorem cellsK_elim {w : World} {a : Addr} : ∀ {zs : List Value} {i : Nat} {K : List Value → Prop}, cellsK w a zs i K →
    ∃ vs, vs.length = zs.length ∧ (∀ j v, vs[j]? = some v → w.cell? (a.add (i + j)) = some v) ∧ K vs
  | [], i, K, h => ⟨[], rfl, by simp, h⟩
  | z :: zs, i, K, h => by
    obtain ⟨v, h1, h2⟩ := cellK_elim h
    obtain ⟨vs, h3, h4, h5⟩ := cellsK_elim h2
    refine ⟨v :: vs, by simp [h3], fun j u hj => ?_, h5⟩
    cases j with
    | zero => simp at hj; subst hj; exact h1
    | succ j =>
      have := h4 j u (by simpa using hj)
      rw [show i + (j + 1) = i + 1 + j from by omega]
      exact this
def aggD : TypeDesc → Bool
  | .struct _ => true
  | .array _ _ => true
  | _ => false
def nLoad (P : Program) (t : TypeId) (x : Value) (K : Value → World → Prop) (w : World) : Prop :=
  match x with
  | .pointer (some a) => match P.info? t, P.underlying t with
    | some i, some d => match i.zero with
      | some z => match aggD d with
        | true => match z with
          | .agg zs => match Nat.beq zs.toList.length i.size with
            | true => cellsK w a zs.toList 0 fun vs => K (.agg ⟨vs⟩) w
            | false => False
          | _ => False
        | false => cellK z w a fun v => K v w
      | none => False
    | _, _ => False
  | _ => False
theorem run_isAgg {P : Program} {t : TypeId} {d : TypeDesc} (h : P.underlying t = some d) (w : World) : (isAgg t).run P w = .ok (aggD d) w := by
  unfold isAgg
  rw [Sem.run_bind, run_underlying h]
  cases d <;> rfl
theorem nLoad_val {P : Program} {t : TypeId} {x : Value} {K : Value → World → Prop} {w : World} (h : nLoad P t x K w) : ∃ v, K v w ∧ ∃ a, x = .pointer (some a) ∧ ∀ w1, Eqv w1 w → (loadVar t a).run P w1 = .ok v w1 := by
  unfold nLoad at h
  split at h
  case h_2 => exact h.elim
  rename_i a
  split at h
  case h_2 => exact h.elim
  rename_i i d hi hd
  split at h
  case h_2 => exact h.elim
  rename_i z hz
  cases hg : aggD d with
  | true =>
    simp only [hg] at h
    split at h
    case h_2 => exact h.elim
    rename_i zs
    split at h
    case h_2 => exact h.elim
    rename_i hb
    obtain ⟨vs, h1, h2, h3⟩ := cellsK_elim h
    refine ⟨.agg ⟨vs⟩, h3, a, rfl, fun w1 he => ?_⟩
    have hs : i.size = vs.length := by rw [h1]; exact (Nat.eq_of_beq_eq_true hb).symm
    unfold loadVar
    rw [Sem.run_bind, run_isAgg hd, Result.andThen_ok, hg, if_pos rfl, Sem.run_bind]
    have hsz : (sizeOf t).run P w1 = .ok i.size w1 := by simp [sizeOf, run_info hi]
    rw [hsz, Result.andThen_ok, hs, Sem.run_bind, run_loadCells_list w1 a vs (fun j v hj => by rw [he.cell?]; simpa using h2 j v hj)]
    rfl
  | false =>
    simp only [hg] at h
    obtain ⟨v, h1, h2⟩ := cellK_elim h
    refine ⟨v, h2, a, rfl, fun w1 he => ?_⟩
    unfold loadVar
    rw [Sem.run_bind, run_isAgg hd, Result.andThen_ok, hg]
    simp [he.cell?, h1]

theorem nLoad_sound {P : Program} {t : TypeId} {x : Value} {K : Value → World → Prop} {w : World} (h : nLoad P t x K w) : SemJ P (Instr.loadAt t x) K w := by
  obtain ⟨v, h1, a, rfl, h2⟩ := nLoad_val h
  exact SemJ.ok (fun w1 he => by simpa [Instr.loadAt, Instr.sureAddr] using h2 w1 he) h1

def canStore (w : World) (a : Addr) : Prop := (∃ u, w.cell? a = some u) ∧ w.frozen? a = false
def storesK (a : Addr) : List Value → Nat → World → (World → Prop) → Prop
  | [], _, w, K => K w
  | v :: vs, i, w, K => match v.oneCell' with
    | true => canStore w (a.add i) ∧ storesK a vs (i + 1) (w.setCell (a.add i) v) K
    | false => False
theorem storesK_sound {P : Program} {a : Addr} : ∀ {vs : List Value} {i : Nat} {w : World} {K : World → Prop}, storesK a vs i w K → SemJ P (storeCells a vs i) (fun _ w' => K w') w
  | [], i, w, K, h => SemJ.pure h
  | v :: vs, i, w, K, h => by
    unfold storesK at h
    split at h
    case h_2 => exact h.elim
    rename_i hv
    obtain ⟨⟨⟨u, hu⟩, hf⟩, h⟩ := h
    unfold storeCells
    refine SemJ.bind (fun w1 he => ⟨(), w1.setCell (a.add i) v, w.setCell (a.add i) v, ?_, he.setCell _ _, storesK_sound h⟩)
    rw [run_store P w1 (a.add i) v .plain hv]
    simp [he.cell?, hu, he.frozen?, hf]
def nStore (P : Program) (t : TypeId) (x v : Value) (K : World → Prop) (w : World) : Prop :=
  match x with
  | .pointer (some a) => match P.info? t with
    | some i => match Nat.beq v.cells.toList.length i.size with
      | true => match v with
        | .agg vs => storesK a vs.toList 0 w K
        | _ => match v.oneCell' with
          | true => canStore w a ∧ K (w.setCell a v)
          | false => False
      | false => False
    | none => False
  | _ => False
theorem add_zero (a : Addr) : a.add 0 = a := rfl
theorem nStore_sound {P : Program} {t : TypeId} {x v : Value} {K : World → Prop} {w : World} (h : nStore P t x v K w) : SemJ P (Instr.storeAt t x v) (fun _ w' => K w') w := by
  unfold nStore at h
  split at h
  case h_2 => exact h.elim
  rename_i a
  split at h
  case h_2 => exact h.elim
  rename_i i hi
  split at h
  case h_2 => exact h.elim
  rename_i hb
  have hs : v.cells.size = i.size := by have := Nat.eq_of_beq_eq_true hb; simpa using this
  have h' : storesK a v.cells.toList 0 w K := by
    split at h
    · exact h
    · split at h
      case h_2 => exact h.elim
      rename_i hna hv
      have e : v.cells = #[v] := by
        cases v <;> first | rfl | (simp [Value.oneCell'] at hv)
      rw [e]
      show (match v.oneCell' with | true => canStore w (a.add 0) ∧ storesK a [] (0 + 1) (w.setCell (a.add 0) v) K | false => False)
      rw [hv]
      exact h
  unfold Instr.storeAt Instr.sureAddr
  refine SemJ.bind (SemJ.pure ?_)
  unfold storeVar
  refine SemJ.bind (SemJ.size hi ?_)
  have hne : ¬ (v.cells.size ≠ i.size) := fun hh => hh hs
  rw [if_neg hne]
  exact storesK_sound h'

theorem newVar_sound {P : Program} {e : TypeId} {v : Value} {K : Value → World → Prop} {w : World} (h : K (.pointer (some ⟨w.heap.size, 0, none⟩)) (w.alloc (.cells v.cells e))) :
    SemJ P (newVar e v) (fun a w' => SemJ P (Pure.pure (Value.pointer (some a)) : Sem Value) K w') w :=
  fun w1 he => ⟨⟨w1.heap.size, 0, none⟩, w1.alloc (.cells v.cells e), w.alloc (.cells v.cells e), by simp [newVar, newRow], he.alloc _, SemJ.pure (by rw [he.heap]; exact h)⟩
def nAlloc (P : Program) (e : TypeId) (K : Value → World → Prop) (w : World) : Prop :=
  match P.info? e with
  | some i => match i.zero with
    | some z => K (.pointer (some ⟨w.heap.size, 0, none⟩)) (w.alloc (.cells z.cells e))
    | none => False
  | none => False
theorem nAlloc_sound {P : Program} {e : TypeId} {K : Value → World → Prop} {w : World} (h : nAlloc P e K w) : SemJ P (Instr.alloc e true (.tuple #[])) K w := by
  unfold nAlloc at h
  split at h
  case h_2 => exact h.elim
  rename_i i hi
  split at h
  case h_2 => exact h.elim
  rename_i z hz
  unfold Instr.alloc
  exact SemJ.bind (SemJ.zero hi hz (SemJ.bind (newVar_sound h)))
def nBox (e : TypeId) (v : Value) (K : Value → World → Prop) (w : World) : Prop := K (.pointer (some ⟨w.heap.size, 0, none⟩)) (w.alloc (.cells v.cells e))
theorem nBox_sound {P : Program} {e : TypeId} {v : Value} {K : Value → World → Prop} {w : World} (h : nBox e v K w) : SemJ P (Instr.box e v) K w :=
  SemJ.bind (newVar_sound h)

/-! numbers -/
def ibits (op : BinOp) (k : IntKind) (x y : Int) : Int :=
  k.wrap (match op with
    | .and => BitVec.ofInt k.bits x &&& BitVec.ofInt k.bits y
    | .or => BitVec.ofInt k.bits x ||| BitVec.ofInt k.bits y
    | .xor => BitVec.ofInt k.bits x ^^^ BitVec.ofInt k.bits y
    | _ => BitVec.ofInt k.bits x &&& ~~~ BitVec.ofInt k.bits y).toNat
def ishl (k : IntKind) (x y : Int) : Int := k.wrap (x * 2 ^ min y.toNat k.bits)
def ishr (k : IntKind) (x y : Int) : Int := x.fdiv (2 ^ min y.toNat k.bits)
def intBin (op : BinOp) (k : IntKind) (a b : Int) (K : Value → Prop) : Prop :=
  match op with
  | .add => K (.int k (k.wrap (a + b)))
  | .sub => K (.int k (k.wrap (a - b)))
  | .mul => K (.int k (k.wrap (a * b)))
  | .quo => b ≠ 0 ∧ K (.int k (k.wrap (a.tdiv b)))
  | .rem => b ≠ 0 ∧ K (.int k (a.tmod b))
  | .and => K (.int k (ibits .and k a b))
  | .or => K (.int k (ibits .or k a b))
  | .xor => K (.int k (ibits .xor k a b))
  | .andNot => K (.int k (ibits .andNot k a b))
  | .eql => K (.bool (a == b))
  | .neq => K (.bool (a != b))
  | .lss => K (.bool (decide (a < b)))
  | .leq => K (.bool (decide (a ≤ b)))
  | .gtr => K (.bool (decide (b < a)))
  | .geq => K (.bool (decide (b ≤ a)))
  | _ => False
theorem intBin_sound {P : Program} {op : BinOp} {t : TypeId} {k : IntKind} {a b : Int} {K : Value → Prop} (h : intBin op k a b K) :
    ∃ v, K v ∧ ∀ w, (binOp op t (.int k a) (.int k b)).run P w = .ok v w := by
  cases op <;> simp only [intBin] at h <;>
    first
    | exact h.elim
    | exact ⟨_, h, fun w => by simp [binOp, Op.intArith, Op.intBits, Op.intCmp, ibits] <;> rfl⟩
    | (obtain ⟨h0, h⟩ := h; exact ⟨_, h, fun w => by simp [binOp, Op.intDiv, h0]⟩)
theorem run_equalIn_bool {P : Program} {t : TypeId} (d : Nat) {a b : Bool} (h : P.underlying t = some .bool) (w : World) : (Op.equalIn (d + 1) t (.bool a) (.bool b)).run P w = .ok (a == b) w := by
  simp [Op.equalIn, run_underlying h]
theorem run_equal_bool {P : Program} {t : TypeId} {a b : Bool} (h : P.underlying t = some .bool) (w : World) : (Op.equal t (.bool a) (.bool b)).run P w = .ok (a == b) w := run_equalIn_bool 9999 h w
theorem run_equalIn_slice_nil {P : Program} {t e : TypeId} (d : Nat) {A : Option Addr} {n c n' c' : Nat} (h : P.underlying t = some (.slice e)) (w : World) : (Op.equalIn (d + 1) t (.slice A n c) (.slice none n' c')).run P w = .ok A.isNone w := by
  cases A <;> simp [Op.equalIn, run_underlying h]
theorem run_equal_slice_nil {P : Program} {t e : TypeId} {A : Option Addr} {n c n' c' : Nat} (h : P.underlying t = some (.slice e)) (w : World) : (Op.equal t (.slice A n c) (.slice none n' c')).run P w = .ok A.isNone w := run_equalIn_slice_nil 9999 h w
def nBin (P : Program) (op : BinOp) (t : TypeId) (x y : Value) (K : Value → Prop) : Prop :=
  match op, x, y with
  | .shl, .int k a, .int _ b => 0 ≤ b ∧ K (.int k (ishl k a b))
  | .shr, .int k a, .int _ b => 0 ≤ b ∧ K (.int k (ishr k a b))
  | op, .int k a, .int k' b => match decEq k k' with
    | isTrue _ => intBin op k a b K
    | isFalse _ => False
  | .eql, .string a, .string b => K (.bool (a.toList == b.toList))
  | .neq, .string a, .string b => K (.bool (!(a.toList == b.toList)))
  | .eql, .bool a, .bool b => match P.underlying t with
    | some .bool => K (.bool (a == b))
    | _ => False
  | .neq, .bool a, .bool b => match P.underlying t with
    | some .bool => K (.bool (!(a == b)))
    | _ => False
  | .eql, .pointer p, .pointer none => match P.underlying t with
    | some (.pointer _) => K (.bool p.isNone)
    | _ => False
  | .neq, .pointer p, .pointer none => match P.underlying t with
    | some (.pointer _) => K (.bool (!p.isNone))
    | _ => False
  | .eql, .slice A _ _, .slice none _ _ => match P.underlying t with
    | some (.slice _) => K (.bool A.isNone)
    | _ => False
  | .neq, .slice A _ _, .slice none _ _ => match P.underlying t with
    | some (.slice _) => K (.bool (!A.isNone))
    | _ => False
  | _, _, _ => False
theorem nBin_sound {P : Program} {op : BinOp} {t : TypeId} {x y : Value} {K : Value → Prop} (h : nBin P op t x y K) :
    ∃ v, K v ∧ ∀ w, (binOp op t x y).run P w = .ok v w := by
  unfold nBin at h
  split at h
  case h_1 => exact ⟨_, h.2, fun w => by have h0 := h.1; simp [binOp, Op.shift, ishl]; intro h1; exact absurd h0 (by omega)⟩
  case h_2 => exact ⟨_, h.2, fun w => by have h0 := h.1; simp [binOp, Op.shift, ishr]; intro h1; exact absurd h0 (by omega)⟩
  case h_3 =>
    split at h
    case h_2 => exact h.elim
    rename_i hk _
    subst hk
    exact intBin_sound h
  case h_4 => exact ⟨_, h, fun w => by simp [binOp, Op.stringOp]⟩
  case h_5 => exact ⟨_, h, fun w => by simp [binOp, Op.stringOp]⟩
  case h_6 =>
    split at h
    case h_2 => exact h.elim
    rename_i hu
    exact ⟨_, h, fun w => by simp only [binOp]; simp [run_equal_bool hu]⟩
  case h_7 =>
    split at h
    case h_2 => exact h.elim
    rename_i hu
    exact ⟨_, h, fun w => by simp only [binOp]; simp [run_equal_bool hu]⟩
  case h_8 =>
    split at h
    case h_2 => exact h.elim
    rename_i e hu
    exact ⟨_, h, fun w => run_eql_pointer_nil w t _ (by rw [hu]; simp [Program.pointee, hu])⟩
  case h_9 =>
    split at h
    case h_2 => exact h.elim
    rename_i e hu
    exact ⟨_, h, fun w => run_neq_pointer_nil w t _ (by rw [hu]; simp [Program.pointee, hu])⟩
  case h_10 =>
    split at h
    case h_2 => exact h.elim
    rename_i A n c n' c' _ e hu
    exact ⟨_, h, fun w => by simp only [binOp]; simp [run_equal_slice_nil hu]⟩
  case h_11 =>
    split at h
    case h_2 => exact h.elim
    rename_i A n c n' c' _ e hu
    exact ⟨_, h, fun w => by simp only [binOp]; simp [run_equal_slice_nil hu]⟩
  case h_12 => exact h.elim

/-- One cell of z's kind, out of what may be none. -/
def optK (z : Value) (o : Option Value) (K : Value → Prop) : Prop :=
  match z with
  | .int k _ => ∃ n, o = some (.int k n) ∧ K (.int k n)
  | .bool _ => ∃ b, o = some (.bool b) ∧ K (.bool b)
  | .string _ => ∃ s, o = some (.string s) ∧ K (.string s)
  | .slice _ _ _ => ∃ A n c, o = some (.slice A n c) ∧ K (.slice A n c)
  | .pointer _ => ∃ p, o = some (.pointer p) ∧ K (.pointer p)
  | _ => ∃ v, o = some v ∧ K v
theorem optK_elim {z : Value} {o : Option Value} {K : Value → Prop} (h : optK z o K) : ∃ v, o = some v ∧ K v := by
  unfold optK at h
  split at h
  case h_4 => obtain ⟨A, n, c, h⟩ := h; exact ⟨_, h⟩
  all_goals (obtain ⟨x, h⟩ := h; exact ⟨_, h⟩)

def nUn (op : UnOp) (x : Value) (K : Value → Prop) : Prop :=
  match op, x with
  | .not, .bool b => K (.bool (!b))
  | .neg, .int k n => K (.int k (k.wrap (0 - n)))
  | .xor, .int k n => K (.int k (ibits .xor k (match k.signed with | true => -1 | false => k.max) n))
  | _, _ => False
theorem nUn_sound {P : Program} {op : UnOp} {x : Value} {K : Value → Prop} (h : nUn op x K) : ∃ v, K v ∧ ∀ w, (Op.unary op x).run P w = .ok v w := by
  unfold nUn at h
  split at h
  case h_1 => exact ⟨_, h, fun w => rfl⟩
  case h_2 => exact ⟨_, h, fun w => rfl⟩
  case h_3 => exact ⟨_, h, fun w => by simp only [Op.unary, Op.intBits, ibits]; rename_i k n; cases hk : k.signed <;> simp⟩
  case h_4 => exact h.elim

def bytesAt (w : World) (A : Option Addr) (n : Nat) (bs : List UInt8) : Prop := bs.length = n ∧ ∀ j b, bs[j]? = some b → ∃ a, A = some a ∧ w.cell? (a.add j) = some (.int .u8 (b.toNat : Int))
theorem run_bytesToString {P : Program} {w : World} {A : Option Addr} {n c : Nat} {bs : List UInt8} (h : bytesAt w A n bs) : (Conv.bytesToString (.slice A n c)).run P w = .ok (.string ⟨bs.toArray⟩) w := by
  obtain ⟨h1, h2⟩ := h
  cases A with
  | none =>
    have : bs = [] := by
      cases bs with
      | nil => rfl
      | cons b bs => obtain ⟨a, e, _⟩ := h2 0 b rfl; cases e
    subst this
    rfl
  | some a =>
    unfold Conv.bytesToString
    simp only [Sem.run_bind]
    have hl := run_loadCells_list (P := P) w a (bs.map fun b => Value.int .u8 (b.toNat : Int)) (fun j v hj => by
      rw [List.getElem?_map] at hj
      cases hb : bs[j]? with
      | none => rw [hb] at hj; cases hj
      | some b =>
        rw [hb] at hj
        simp at hj
        subst hj
        obtain ⟨a', e, hc⟩ := h2 j b hb
        cases e
        exact hc)
    rw [List.length_map, h1] at hl
    rw [hl]
    simp only [Result.andThen_ok]
    have key : ∀ (bs : List UInt8) (s : ByteArray), (forIn (m := Sem) (bs.map fun b => Value.int .u8 (b.toNat : Int)) s fun (c : Value) (s : ByteArray) => (do
        let .int .u8 n := c | stuck "bytesToString: byte expected"
        pure (ForInStep.yield (s.push (UInt8.ofNat n.toNat))) : Sem (ForInStep ByteArray))).run P w = .ok ⟨s.data ++ bs.toArray⟩ w := by
      intro bs
      induction bs with
      | nil => intro s; simp
      | cons b bs ih =>
        intro s
        simp only [List.map_cons, List.forIn_cons, Sem.run_bind, Sem.run_pure, Result.andThen_ok]
        rw [ih]
        congr 2
        simp [ByteArray.push]
    have k2 := key bs ByteArray.empty
    rw [← List.forIn_toArray] at k2
    simp only [ByteArray.empty] at k2 ⊢
    erw [k2]
    simp [ByteArray.emptyWithCapacity]
    try rfl
def nConv (P : Program) (s d : TypeId) (x : Value) (K : Value → World → Prop) (w : World) : Prop :=
  match P.underlying s, P.underlying d, x with
  | some _, some (.int k), .int _ n => K (.int k (k.wrap n)) w
  | some (.slice e), some .string, .slice A n _ => match P.underlying e with
    | some (.int .u8) => ∃ bs, bytesAt w A n bs ∧ K (.string ⟨bs.toArray⟩) w
    | _ => False
  | some .string, some .string, .string s => K (.string s) w
  | _, _, _ => False
theorem bytesAt.eqv {w1 w : World} (he : Eqv w1 w) {A : Option Addr} {n : Nat} {bs : List UInt8} (h : bytesAt w A n bs) : bytesAt w1 A n bs :=
  ⟨h.1, fun j b hj => by obtain ⟨a, e, hc⟩ := h.2 j b hj; exact ⟨a, e, by rw [he.cell?]; exact hc⟩⟩
theorem nConv_val {P : Program} {s d : TypeId} {x : Value} {K : Value → World → Prop} {w : World} (h : nConv P s d x K w) : ∃ v, K v w ∧ ∀ w1, Eqv w1 w → (convert s d x).run P w1 = .ok v w1 := by
  unfold nConv at h
  split at h
  case h_1 =>
    rename_i u1 k yk n h1 h2
    refine ⟨.int k (k.wrap n), h, fun w1 he => ?_⟩
    unfold convert
    simp [run_underlying h1, run_underlying h2]
    cases u1 <;> simp [Conv.intToInt]
  case h_2 =>
    rename_i e A n c h1 h2
    split at h
    case h_2 => exact h.elim
    rename_i h3
    obtain ⟨bs, hb, hk⟩ := h
    refine ⟨.string ⟨bs.toArray⟩, hk, fun w1 he => ?_⟩
    unfold convert
    simp [run_underlying h1, run_underlying h2, run_underlying h3, run_bytesToString (hb.eqv he)]
  case h_3 =>
    rename_i s' h1 h2
    refine ⟨.string s', h, fun w1 he => ?_⟩
    unfold convert
    simp [run_underlying h1, run_underlying h2]
  case h_4 => exact h.elim

theorem nConv_sound {P : Program} {s d : TypeId} {x : Value} {K : Value → World → Prop} {w : World} (h : nConv P s d x K w) : SemJ P (convert s d x) K w := by
  obtain ⟨v, hk, hr⟩ := nConv_val h
  exact SemJ.ok hr hk

def nMake (P : Program) (t : TypeId) (l c : Value) (K : Value → World → Prop) (w : World) : Prop :=
  match P.underlying t with
  | some (.slice e) => match P.info? e with
    | some i => match i.zero with
      | some z => match l, c with
        | .int _ l, .int _ c => (0 ≤ l ∧ l ≤ c ∧ (i.bytes : Int) * c ≤ 281474976710656 ∧ c ≤ 9223372036854775807) ∧ K (.slice (some ⟨w.heap.size, 0, none⟩) l.toNat c.toNat) (w.alloc (.cells (madeCells z.cells (c.toNat * i.size)) e))
        | _, _ => False
      | none => False
    | none => False
  | _ => False
theorem nMake_sound {P : Program} {t : TypeId} {l c : Value} {K : Value → World → Prop} {w : World} (h : nMake P t l c K w) : SemJ P (Instr.makeSlice t l c) K w := by
  unfold nMake at h
  split at h
  case h_2 => exact h.elim
  rename_i e he
  split at h
  case h_2 => exact h.elim
  rename_i i hi
  split at h
  case h_2 => exact h.elim
  rename_i z hz
  split at h
  case h_2 => exact h.elim
  obtain ⟨⟨h0, h1, h2, h3⟩, hk⟩ := h
  intro w1 heq
  exact ⟨_, _, _, run_make w1 t e i z he hi hz _ _ _ _ h0 h1 h2 h3, heq.alloc _, by rw [heq.heap]; exact hk⟩

def bndK (x : Option Value) (y : Nat) (C : Prop) : Prop :=
  match x with
  | none => C
  | some (.int _ l) => (0 ≤ l ∧ l ≤ (y : Int)) ∧ C
  | _ => False
def bndN (x : Option Value) (d : Nat) : Nat :=
  match x with
  | some (.int _ l) => l.toNat
  | _ => d
def slA (A : Option Addr) (l m s : Nat) : Option Addr := if m = l then A else A.map (·.add (l * s))
def nSliceK (A : Option Addr) (n c s : Nat) (lo hi mx : Option Value) (K : Value → Prop) : Prop :=
  bndK mx c (bndK hi (bndN mx c) (bndK lo (bndN hi n) (K (.slice (slA A (bndN lo 0) (bndN mx c) s) (bndN hi n - bndN lo 0) (bndN mx c - bndN lo 0)))))
theorem bndK_elim {x : Option Value} {y : Nat} {C : Prop} (h : bndK x y C) : C ∧ (x = none ∨ ∃ k l, x = some (.int k l) ∧ 0 ≤ l ∧ l ≤ (y : Int)) := by
  unfold bndK at h
  split at h
  · exact ⟨h, .inl rfl⟩
  · exact ⟨h.2, .inr ⟨_, _, rfl, h.1⟩⟩
  · exact h.elim
theorem run_sliceBounds {P : Program} {b : Bool} {n c : Nat} {lo hi mx : Option Value} {C : Prop} (hmx : mx.isSome = true → hi.isSome = true) (h : bndK mx c (bndK hi (bndN mx c) (bndK lo (bndN hi n) C))) (w : World) :
    C ∧ (Instr.sliceBounds b n c lo hi mx).run P w = .ok (bndN lo 0, bndN hi n, bndN mx c) w := by
  obtain ⟨ha, h1⟩ := bndK_elim h
  obtain ⟨hb, h2⟩ := bndK_elim ha
  obtain ⟨hc, h3⟩ := bndK_elim hb
  refine ⟨hc, ?_⟩
  clear h ha hb
  have sb : ∀ (k : IntKind) (l : Int) (y : Nat) (code : BoundsCode), 0 ≤ l → l ≤ (y : Int) → (Instr.sliceBound (.int k l) y code).run P w = .ok l.toNat w := by
    intro k l y code a b
    simp [Instr.sliceBound, asIntOf, a, b]
  unfold Instr.sliceBounds
  rcases h1 with rfl | ⟨k1, l1, rfl, a1, b1⟩
  · rcases h2 with rfl | ⟨k2, l2, rfl, a2, b2⟩
    · rcases h3 with rfl | ⟨k3, l3, rfl, a3, b3⟩
      · simp [bndN]
      · have e3 := fun code => sb k3 l3 _ code a3 b3
        simp only [bndN] at e3
        simp [bndN, e3]
    · have e2 := fun code => sb k2 l2 _ code a2 b2
      simp only [bndN] at e2
      rcases h3 with rfl | ⟨k3, l3, rfl, a3, b3⟩
      · simp [bndN, e2]
      · have e3 := fun code => sb k3 l3 _ code a3 b3
        simp only [bndN] at e3
        simp [bndN, e2, e3]
  · have e1 := fun code => sb k1 l1 _ code a1 b1
    rcases h2 with rfl | ⟨k2, l2, rfl, a2, b2⟩
    · have := hmx rfl
      simp at this
    · have e2 := fun code => sb k2 l2 _ code a2 b2
      simp only [bndN] at e2
      rcases h3 with rfl | ⟨k3, l3, rfl, a3, b3⟩
      · simp [bndN, e1, e2]
      · have e3 := fun code => sb k3 l3 _ code a3 b3
        simp only [bndN] at e3
        simp [bndN, e1, e2, e3]
def nSlice (P : Program) (t : TypeId) (x : Value) (lo hi mx : Option Value) (K : Value → Prop) : Prop :=
  match mx.isSome && !hi.isSome with
  | true => False
  | false => match P.underlying t, x with
    | some (.slice e), .slice A n c => match P.info? e with
      | some i => nSliceK A n c i.size lo hi mx K
      | none => False
    | some (.array n e), .pointer (some a) => match P.info? e with
      | some i => nSliceK (some a) n n i.size lo hi mx K
      | none => False
    | some .string, .string s => match mx with
      | none => bndK hi s.size (bndK lo (bndN hi s.size) (K (.string (s.extract (bndN lo 0) (bndN hi s.size)))))
      | some _ => False
    | _, _ => False
theorem nSlice_sound {P : Program} {t : TypeId} {x : Value} {lo hi mx : Option Value} {K : Value → Prop} (h : nSlice P t x lo hi mx K) : ∃ v, K v ∧ ∀ w, (Instr.sliceAt t x lo hi mx).run P w = .ok v w := by
  unfold nSlice at h
  split at h
  · exact h.elim
  rename_i hmx
  have hmx' : mx.isSome = true → hi.isSome = true := by
    intro e
    rw [e] at hmx
    simpa using hmx
  split at h
  case h_1 =>
    rename_i e A n c hu
    split at h
    case h_2 => exact h.elim
    rename_i i hi'
    unfold nSliceK at h
    refine ⟨.slice (slA A (bndN lo 0) (bndN mx c) i.size) (bndN hi n - bndN lo 0) (bndN mx c - bndN lo 0), (run_sliceBounds (P := P) (b := true) hmx' h default).1, fun w => ?_⟩
    simp [Instr.sliceAt, Instr.slice, run_underlying hu, (run_sliceBounds (P := P) (b := true) hmx' h w).2, sizeOf, run_info hi', slA]
  case h_2 =>
    rename_i n e a hu
    split at h
    case h_2 => exact h.elim
    rename_i i hi'
    unfold nSliceK at h
    refine ⟨.slice (slA (some a) (bndN lo 0) (bndN mx n) i.size) (bndN hi n - bndN lo 0) (bndN mx n - bndN lo 0), (run_sliceBounds (P := P) (b := true) hmx' h default).1, fun w => ?_⟩
    simp [Instr.sliceAt, Instr.sureAddr, run_underlying hu, (run_sliceBounds (P := P) (b := false) hmx' h w).2, sizeOf, run_info hi', slA]
    split <;> rfl
  case h_3 =>
    rename_i s hu
    split at h
    case h_2 => exact h.elim
    refine ⟨.string (s.extract (bndN lo 0) (bndN hi s.size)), (run_sliceBounds (P := P) (b := false) (mx := none) (n := s.size) (c := s.size) (by simp) h default).1, fun w => ?_⟩
    have := (run_sliceBounds (P := P) (b := false) (mx := none) (n := s.size) (c := s.size) (by simp) h w).2
    simp [Instr.sliceAt, Instr.slice, run_underlying hu, this]
  case h_4 => exact h.elim

def nFieldAddr (P : Program) (s : TypeId) (x : Value) (f : Nat) (K : Value → Prop) : Prop :=
  match P.underlying s with
  | some (.struct fs) => match fs.toList[f]? with
    | some fd => match P.info? fd.type with
      | some i => match Nat.beq i.size 0 with
        | true => False
        | false => match x with
          | .pointer (some a) => K (.pointer (some (a.add fd.offset)))
          | _ => False
      | none => False
    | none => False
  | _ => False
theorem nFieldAddr_sound {P : Program} {s : TypeId} {x : Value} {f : Nat} {K : Value → Prop} (h : nFieldAddr P s x f K) : ∃ v, K v ∧ ∀ w, (Instr.fieldAt s x f).run P w = .ok v w := by
  unfold nFieldAddr at h
  split at h
  case h_2 => exact h.elim
  rename_i fs hu
  split at h
  case h_2 => exact h.elim
  rename_i fd hf
  split at h
  case h_2 => exact h.elim
  rename_i i hi
  split at h
  · exact h.elim
  rename_i hs
  split at h
  case h_2 => exact h.elim
  rename_i a
  have hf' : fs[f]? = some fd := by simpa using hf
  have hs' : ¬ i.size = 0 := fun e => by rw [e] at hs; cases hs
  exact ⟨_, h, fun w => by simp [Instr.fieldAt, run_underlying hu, hf', Instr.sureAddr, fieldPlace, sizeOf, run_info hi, hs']⟩
def nField (P : Program) (t : TypeId) (x : Value) (f : Nat) (K : Value → Prop) : Prop :=
  match P.underlying t with
  | some (.struct fs) => match fs.toList[f]? with
    | some fd => match x, P.underlying fd.type, P.info? fd.type with
      | .agg cs, some d, some i => match aggD d with
        | true => K (.agg ⟨(cs.toList.drop fd.offset).take i.size⟩)
        | false => match cs.toList[fd.offset]? with
          | some v => K v
          | none => False
      | _, _, _ => False
    | none => False
  | _ => False
theorem nField_sound {P : Program} {t : TypeId} {x : Value} {f : Nat} {K : Value → Prop} (h : nField P t x f K) : ∃ v, K v ∧ ∀ w, (Instr.field t x f).run P w = .ok v w := by
  unfold nField at h
  split at h
  case h_2 => exact h.elim
  rename_i fs hu
  split at h
  case h_2 => exact h.elim
  rename_i fd hf
  have hf' : fs[f]? = some fd := by simpa using hf
  split at h
  case h_2 => exact h.elim
  rename_i cs d i hd hi
  split at h
  · rename_i hg
    refine ⟨_, h, fun w => ?_⟩
    simp only [Instr.field, Sem.run_bind, run_underlying hu, Result.andThen_ok, hf', asAgg, Sem.run_pure, part, run_isAgg hd, hg, if_true, sizeOf, run_info hi]
    congr 2
    apply Array.toList_inj.1
    simp [List.extract_eq_take_drop]
  · rename_i hg
    split at h
    case h_2 => exact h.elim
    rename_i v hv
    refine ⟨_, h, fun w => ?_⟩
    have hv' : cs[fd.offset]? = some v := by simpa using hv
    simp [Instr.field, run_underlying hu, hf', asAgg, part, run_isAgg hd, hg, hv']

def idxN (i : Int) (s : Nat) : Nat :=
  match s with
  | 1 => i.toNat
  | s => i.toNat * s
theorem idxN_eq (i : Int) (s : Nat) : idxN i s = i.toNat * s := by
  unfold idxN
  split
  · omega
  · rfl
def nIndexAddr (P : Program) (t : TypeId) (x ix : Value) (K : Value → Prop) : Prop :=
  match P.underlying t, x, ix with
  | some (.slice e), .slice A n _, .int _ i => match P.info? e with
    | some inf => (0 ≤ i ∧ i < (n : Int)) ∧ ∃ a, A = some a ∧ K (.pointer (some (a.add (idxN i inf.size))))
    | none => False
  | some (.array n e), .pointer (some a), .int _ i => match P.info? e with
    | some inf => (0 ≤ i ∧ i < (n : Int)) ∧ K (.pointer (some (a.add (idxN i inf.size))))
    | none => False
  | _, _, _ => False
theorem nIndexAddr_sound {P : Program} {t : TypeId} {x ix : Value} {K : Value → Prop} (h : nIndexAddr P t x ix K) : ∃ v, K v ∧ ∀ w, (Instr.indexAt t x ix).run P w = .ok v w := by
  unfold nIndexAddr at h
  split at h
  case h_1 =>
    rename_i e A n c k i hu
    split at h
    case h_2 => exact h.elim
    rename_i inf hi
    obtain ⟨⟨h0, h1⟩, a, rfl, hk⟩ := h
    exact ⟨_, hk, fun w => by simp [Instr.indexAt, asIntOf, run_underlying hu, h0, h1, sizeOf, run_info hi, idxN_eq]⟩
  case h_2 =>
    rename_i n e a k i hu
    split at h
    case h_2 => exact h.elim
    rename_i inf hi
    obtain ⟨⟨h0, h1⟩, hk⟩ := h
    exact ⟨_, hk, fun w => by simp [Instr.indexAt, asIntOf, run_underlying hu, h0, h1, sizeOf, run_info hi, idxN_eq, Instr.sureAddr]⟩
  case h_3 => exact h.elim
def nIndex (P : Program) (t : TypeId) (x ix : Value) (K : Value → Prop) : Prop :=
  match P.underlying t, x, ix with
  | some (.array n e), .agg cs, .int _ i => match P.info? e, P.underlying e with
    | some inf, some d => match aggD d, inf.zero with
      | false, some z => (0 ≤ i ∧ i < (n : Int)) ∧ optK z (cs.toList[idxN i inf.size]?) K
      | _, _ => False
    | _, _ => False
  | some .string, .string s, .int _ i => 0 ≤ i ∧ ∃ b : UInt8, s.data.toList[i.toNat]? = some b ∧ K (.int .u8 (b.toNat : Int))
  | _, _, _ => False
theorem nIndex_sound {P : Program} {t : TypeId} {x ix : Value} {K : Value → Prop} (h : nIndex P t x ix K) : ∃ v, K v ∧ ∀ w, (Instr.index t x ix).run P w = .ok v w := by
  unfold nIndex at h
  split at h
  case h_1 =>
    rename_i n e cs k i hu
    split at h
    case h_2 => exact h.elim
    rename_i inf d hi hd
    split at h
    case h_2 => exact h.elim
    rename_i z hg hz
    obtain ⟨⟨h0, h1⟩, hk⟩ := h
    obtain ⟨v, hv, hk⟩ := optK_elim hk
    have hv' : cs[i.toNat * inf.size]? = some v := by rw [← idxN_eq]; simpa using hv
    exact ⟨_, hk, fun w => by simp [Instr.index, asIntOf, run_underlying hu, h0, h1, sizeOf, run_info hi, part, run_isAgg hd, hg, hv']⟩
  case h_2 =>
    rename_i s k i hu
    obtain ⟨h0, b, hb, hk⟩ := h
    have hlt : i.toNat < s.size := by
      have := (List.getElem?_eq_some_iff.1 hb).1
      simpa using this
    have hb' : s[i.toNat]? = some b := by
      rw [getElem?_pos s i.toNat hlt]
      have := (List.getElem?_eq_some_iff.1 hb).2
      rw [← this]
      rfl
    exact ⟨_, hk, fun w => by simp [Instr.index, asIntOf, run_underlying hu, h0, hb']⟩
  case h_3 => exact h.elim
def nExtract (x : Value) (i : Nat) (K : Value → Prop) : Prop :=
  match x with
  | .tuple vs => match vs.toList[i]? with
    | some v => K v
    | none => False
  | _ => False
theorem nExtract_sound {P : Program} {x : Value} {i : Nat} {K : Value → Prop} (h : nExtract x i K) : ∃ v, K v ∧ ∀ w, (Instr.extract x i).run P w = .ok v w := by
  unfold nExtract at h
  split at h
  case h_2 => exact h.elim
  rename_i vs
  split at h
  case h_2 => exact h.elim
  rename_i v hv
  have hv' : vs[i]? = some v := by simpa using hv
  exact ⟨v, h, fun w => by simp [Instr.extract, hv']⟩

def fillL (place : Nat → Option (Nat × Nat)) : List Value → List (Nat × Value) → Option (List Value)
  | cells, [] => some cells
  | cells, (i, v) :: rest => match place i with
    | none => none
    | some (off, size) => match Nat.beq v.cells.toList.length size, Nat.ble (off + size) cells.length with
      | true, true => fillL place (cells.take off ++ (v.cells.toList ++ cells.drop (off + size))) rest
      | _, _ => none
theorem foldl_set (off : Nat) : ∀ (vs : List Value) (k : Nat) (cells : List Value), off + k + vs.length ≤ cells.length →
    ((vs.zipIdx k).foldl (fun (cs : Array Value) (x : Value × Nat) => cs.setIfInBounds (off + x.2) x.1) ⟨cells⟩).toList = cells.take (off + k) ++ (vs ++ cells.drop (off + k + vs.length))
  | [], k, cells, h => by simp
  | v :: vs, k, cells, h => by
    simp only [List.zipIdx_cons, List.foldl_cons]
    have e : (⟨cells⟩ : Array Value).setIfInBounds (off + k) v = ⟨cells.set (off + k) v⟩ := by
      apply Array.toList_inj.1
      simp
    rw [e, foldl_set off vs (k + 1) _ (by simp at h ⊢; omega)]
    simp only [List.length_cons] at h
    have hlt : off + k < cells.length := by omega
    have h1 : (cells.set (off + k) v).take (off + (k + 1)) = cells.take (off + k) ++ [v] := by
      rw [show off + (k + 1) = off + k + 1 from rfl, List.take_succ_eq_append_getElem (by simpa using hlt)]
      simp [List.take_set_of_le]
    have h2 : (cells.set (off + k) v).drop (off + (k + 1) + vs.length) = cells.drop (off + k + (vs.length + 1)) := by
      rw [List.drop_set_of_lt (by omega)]
      congr 1
      omega
    rw [h1, h2]
    simp
theorem fill_of_fillL (place : Nat → Option (Nat × Nat)) : ∀ (parts : List (Nat × Value)) (cells r : List Value), fillL place cells parts = some r → Instr.fill place ⟨cells⟩ parts = some ⟨r⟩
  | [], cells, r, h => by simp [fillL] at h; subst h; rfl
  | (i, v) :: rest, cells, r, h => by
    unfold fillL at h
    unfold Instr.fill
    cases hp : place i with
    | none => rw [hp] at h; cases h
    | some x =>
      obtain ⟨off, size⟩ := x
      rw [hp] at h
      simp only at h
      split at h
      case h_2 => cases h
      rename_i h1 h2
      have e1 : v.cells.size = size := by have := Nat.eq_of_beq_eq_true h1; simpa using this
      have e2 : off + size ≤ cells.length := Nat.le_of_ble_eq_true h2
      have c : ¬ ((v.cells.size ≠ size || off + v.cells.size > (⟨cells⟩ : Array Value).size) = true) := by
        simp [e1]
        exact e2
      simp only
      rw [if_neg (by simpa using c)]
      have hf := fill_of_fillL place rest _ r h
      rw [← hf]
      congr 1
      apply Array.toList_inj.1
      rw [← Array.foldl_toList, Array.toList_zipIdx]
      have := foldl_set off v.cells.toList 0 cells (by simp [e1]; exact e2)
      simp only [Nat.add_zero, Array.length_toList, e1] at this
      exact this
def placesL (P : Program) : List Field → Option (List (Nat × Nat))
  | [] => some []
  | f :: fs => match P.info? f.type with
    | some i => match placesL P fs with
      | some l => some ((f.offset, i.size) :: l)
      | none => none
    | none => none
theorem placesL_run {P : Program} : ∀ (fs : List Field) (l : List (Nat × Nat)), placesL P fs = some l → ∀ w, (fs.mapM (m := Sem) fun f => do pure (f.offset, ← sizeOf f.type)).run P w = .ok l w
  | [], l, h, w => by simp [placesL] at h; subst h; rfl
  | f :: fs, l, h, w => by
    unfold placesL at h
    split at h
    case h_2 => cases h
    rename_i i hi
    split at h
    case h_2 => cases h
    rename_i l' hl
    cases h
    have := placesL_run fs l' hl w
    simp only [List.mapM_cons, Sem.run_bind, sizeOf, run_info hi, Result.andThen_ok, Sem.run_pure] at this ⊢
    rw [this]
    rfl
def nBuild (P : Program) (t : TypeId) (parts : List (Nat × Value)) (K : Value → Prop) : Prop :=
  match P.info? t, P.underlying t with
  | some i, some d => match i.zero with
    | some z => match d with
      | .struct fs => match placesL P fs.toList with
        | some l => match fillL (fun i => l[i]?) z.cells.toList parts with
          | some r => K (.agg ⟨r⟩)
          | none => False
        | none => False
      | .array _ e => match P.info? e with
        | some ie => match fillL (fun i => some (i * ie.size, ie.size)) z.cells.toList parts with
          | some r => K (.agg ⟨r⟩)
          | none => False
        | none => False
      | _ => False
    | none => False
  | _, _ => False
theorem nBuild_sound {P : Program} {t : TypeId} {parts : List (Nat × Value)} {K : Value → Prop} (h : nBuild P t parts K) : ∃ v, K v ∧ ∀ w, (Instr.build t ⟨parts⟩).run P w = .ok v w := by
  unfold nBuild at h
  split at h
  case h_2 => exact h.elim
  rename_i i d hi hd
  split at h
  case h_2 => exact h.elim
  rename_i z hz
  split at h
  case h_3 => exact h.elim
  · rename_i fs
    split at h
    case h_2 => exact h.elim
    rename_i l hl
    split at h
    case h_2 => exact h.elim
    rename_i r hr
    refine ⟨_, h, fun w => ?_⟩
    have hf := fill_of_fillL (fun i => l[i]?) parts z.cells.toList r hr
    have hm : (fs.mapM (m := Sem) fun f => do pure (f.offset, ← sizeOf f.type)).run P w = .ok ⟨l⟩ w := by
      rw [Array.mapM_eq_mapM_toList]
      have := placesL_run (P := P) fs.toList l hl w
      simp only [Sem.run_map, this, Result.andThen_ok]
    unfold Instr.build
    simp only [Sem.run_bind, zeroValue, run_info hi, Result.andThen_ok, hz, Sem.run_pure, run_underlying hd, hm]
    have hf' : Instr.fill (fun x => (⟨l⟩ : Array (Nat × Nat))[x]?) z.cells parts = some ⟨r⟩ := by
      rw [← hf]
      congr 1
      funext x
      simp
    simp only [hf']
    rfl
  · rename_i n e
    split at h
    case h_2 => exact h.elim
    rename_i ie hie
    split at h
    case h_2 => exact h.elim
    rename_i r hr
    refine ⟨_, h, fun w => ?_⟩
    have hf := fill_of_fillL (fun i => some (i * ie.size, ie.size)) parts z.cells.toList r hr
    unfold Instr.build
    simp only [Sem.run_bind, zeroValue, run_info hi, Result.andThen_ok, hz, Sem.run_pure, run_underlying hd, sizeOf, run_info hie]
    have hf' : Instr.fill (fun i => some (i * ie.size, ie.size)) z.cells parts = some ⟨r⟩ := hf
    simp only [hf']
    rfl
/-- n times the cells zs. -/
def repL (zs : List Value) : Nat → List Value
  | 0 => []
  | n + 1 => zs ++ repL zs n
theorem repL_eq (z : Array Value) (n : Nat) : ((Array.range (n * z.size)).map (z[· % z.size]!)).toList = repL z.toList n := by
  induction n with
  | zero => simp [repL]
  | succ n ih =>
    unfold repL
    rw [← ih]
    apply List.ext_getElem
    · simp [Nat.add_mul, Nat.add_comm]
    · intro i h1 h2
      have hi : i < (n + 1) * z.size := by simpa using h1
      rw [List.getElem_append]
      split
      · rename_i hlt
        have hlt' : i < z.size := by simpa using hlt
        simp [Nat.mod_eq_of_lt hlt', getElem!_pos, hlt']
      · rename_i hge
        have hge' : z.size ≤ i := by simpa using hge
        have hp : 0 < z.size := by
          rcases Nat.eq_zero_or_pos z.size with e | e
          · rw [e] at hi; omega
          · exact e
        simp
        congr 1
        rw [Nat.mod_eq_sub_mod hge']
def nBuildSlice (P : Program) (t : TypeId) (len : Nat) (parts : List (Nat × Value)) (K : Value → World → Prop) (w : World) : Prop :=
  match P.underlying t with
  | some (.slice e) => match P.info? e with
    | some i => match i.zero with
      | some z => match Nat.beq z.cells.toList.length i.size, Nat.ble (len * i.size) 16777216 with
        | true, true => match fillL (fun j => some (j * i.size, i.size)) (repL z.cells.toList len) parts with
          | some r => K (.slice (some ⟨w.heap.size, 0, none⟩) len len) (w.alloc (.cells ⟨r⟩ e))
          | none => False
        | _, _ => False
      | none => False
    | none => False
  | _ => False
theorem nBuildSlice_sound {P : Program} {t : TypeId} {len : Nat} {parts : List (Nat × Value)} {K : Value → World → Prop} {w : World} (h : nBuildSlice P t len parts K w) : SemJ P (Instr.buildSlice t len ⟨parts⟩) K w := by
  unfold nBuildSlice at h
  split at h
  case h_2 => exact h.elim
  rename_i e hu
  split at h
  case h_2 => exact h.elim
  rename_i i hi
  split at h
  case h_2 => exact h.elim
  rename_i z hz
  split at h
  case h_2 => exact h.elim
  rename_i h1 h2
  split at h
  case h_2 => exact h.elim
  rename_i r hr
  have e1 : z.cells.size = i.size := by have := Nat.eq_of_beq_eq_true h1; simpa using this
  have e2 : len * i.size ≤ 16777216 := Nat.le_of_ble_eq_true h2
  intro w1 he
  refine ⟨.slice (some ⟨w1.heap.size, 0, none⟩) len len, w1.alloc (.cells ⟨r⟩ e), w.alloc (.cells ⟨r⟩ e), ?_, he.alloc _, by rw [he.heap]; exact h⟩
  unfold Instr.buildSlice
  simp only [Sem.run_bind, run_underlying hu, Result.andThen_ok, sizeOf, run_info hi, Sem.run_pure]
  rw [if_neg (by omega)]
  have hf := fill_of_fillL (fun j => some (j * i.size, i.size)) parts _ r hr
  by_cases h0 : len * i.size = 0
  · rw [if_pos h0]
    simp only [Sem.run_bind, Sem.run_pure, Result.andThen_ok]
    have : (Array.map (fun x => (#[] : Array Value)[x % (#[] : Array Value).size]!) (Array.range (len * i.size))) = ⟨repL z.cells.toList len⟩ := by
      apply Array.toList_inj.1
      rw [h0, ← repL_eq, e1, h0]
      simp
    rw [this, hf]
    simp [newRow]
  · rw [if_neg h0]
    simp only [Sem.run_bind, Sem.run_pure, Result.andThen_ok, zeroValue, run_info hi, hz]
    have : (Array.map (fun x => z.cells[x % z.cells.size]!) (Array.range (len * i.size))) = ⟨repL z.cells.toList len⟩ := by
      apply Array.toList_inj.1
      rw [← repL_eq, e1]
    rw [this, hf]
    simp [newRow]

/-! ### 5. All operations; lists of operations; code -/
def anyK0 (z : Value) (K : Value → Prop) : Prop :=
  match z with
  | .int k _ => ∃ n, K (.int k n)
  | .bool _ => ∃ b, K (.bool b)
  | .string _ => ∃ s, K (.string s)
  | .slice _ _ _ => ∃ A n c, K (.slice A n c)
  | .pointer _ => ∃ p, K (.pointer p)
  | .map _ => ∃ m, K (.map m)
  | _ => ∃ v, K v
def anyL0 : List Value → (List Value → Prop) → Prop
  | [], K => K []
  | z :: zs, K => anyK0 z fun v => anyL0 zs fun vs => K (v :: vs)
def anyK1 (z : Value) (K : Value → Prop) : Prop :=
  match z with
  | .agg zs => anyL0 zs.toList fun vs => K (.agg ⟨vs⟩)
  | z => anyK0 z K
def anyL1 : List Value → (List Value → Prop) → Prop
  | [], K => K []
  | z :: zs, K => anyK1 z fun v => anyL1 zs fun vs => K (v :: vs)
def typedK (z v : Value) (K : Value → Prop) : Prop :=
  match z with
  | .tuple zs => anyL1 zs.toList fun vs => v = .tuple ⟨vs⟩ ∧ K (.tuple ⟨vs⟩)
  | z => anyK1 z fun u => v = u ∧ K u
theorem anyK0_elim {z : Value} {K : Value → Prop} (h : anyK0 z K) : ∃ v, K v := by
  unfold anyK0 at h
  split at h
  case h_4 => obtain ⟨A, n, c, h⟩ := h; exact ⟨_, h⟩
  all_goals (obtain ⟨x, h⟩ := h; exact ⟨_, h⟩)
theorem anyL0_elim : ∀ {zs : List Value} {K : List Value → Prop}, anyL0 zs K → ∃ vs, K vs
  | [], K, h => ⟨_, h⟩
  | z :: zs, K, h => by
    obtain ⟨v, h⟩ := anyK0_elim h
    obtain ⟨vs, h⟩ := anyL0_elim h
    exact ⟨_, h⟩
theorem anyK1_elim {z : Value} {K : Value → Prop} (h : anyK1 z K) : ∃ v, K v := by
  unfold anyK1 at h
  split at h
  · obtain ⟨vs, h⟩ := anyL0_elim h; exact ⟨_, h⟩
  · exact anyK0_elim h
theorem anyL1_elim : ∀ {zs : List Value} {K : List Value → Prop}, anyL1 zs K → ∃ vs, K vs
  | [], K, h => ⟨_, h⟩
  | z :: zs, K, h => by
    obtain ⟨v, h⟩ := anyK1_elim h
    obtain ⟨vs, h⟩ := anyL1_elim h
    exact ⟨_, h⟩
theorem typedK_elim {z v : Value} {K : Value → Prop} (h : typedK z v K) : K v := by
  unfold typedK at h
  split at h
  · obtain ⟨vs, e, h'⟩ := anyL1_elim h; subst e; exact h'
  · obtain ⟨u, e, h'⟩ := anyK1_elim h; subst e; exact h'
def typedT (P : Program) (t : TypeId) (v : Value) (K : Value → Prop) : Prop :=
  match P.info? t with
  | some i => match i.zero with
    | some z => typedK z v K
    | none => K v
  | none => K v
theorem typedT_elim {P : Program} {t : TypeId} {v : Value} {K : Value → Prop} (h : typedT P t v K) : K v := by
  unfold typedT at h
  split at h
  · split at h
    · exact typedK_elim h
    · exact h
  · exact h
def semT (P : Program) (t : TypeId) (s : Sem Value) (K : Value → World → Prop) (w : World) : Prop := SemJ P s (fun v w' => typedT P t v fun v => K v w') w
theorem semT_sound {P : Program} {t : TypeId} {s : Sem Value} {K : Value → World → Prop} {w : World} (h : semT P t s K w) : SemJ P s K w := SemJ.mono h fun v w' h => typedT_elim h

def imin (a b : Int) : Int := if b < a then b else a
def imax (a b : Int) : Int := if a < b then b else a
def minL : Int → List Value → Option Int
  | x, [] => some x
  | x, .int _ y :: r => minL (imin x y) r
  | _, _ => none
def maxL : Int → List Value → Option Int
  | x, [] => some x
  | x, .int _ y :: r => maxL (imax x y) r
  | _, _ => none
theorem minL_run {P : Program} (k : IntKind) (w : World) : ∀ (l : List Value) (x r : Int), minL x l = some r → (l.foldlM (m := Sem) Builtin.min2 (.int k x)).run P w = .ok (.int k r) w
  | [], x, r, h => by simp [minL] at h; subst h; rfl
  | v :: l, x, r, h => by
    unfold minL at h
    split at h
    case h_1 => simp_all
    case h_2 e =>
      cases e
      simp only [List.foldlM_cons, Sem.run_bind]
      exact minL_run k w _ _ _ h
    case h_3 => cases h
theorem maxL_run {P : Program} (k : IntKind) (w : World) : ∀ (l : List Value) (x r : Int), maxL x l = some r → (l.foldlM (m := Sem) Builtin.max2 (.int k x)).run P w = .ok (.int k r) w
  | [], x, r, h => by simp [maxL] at h; subst h; rfl
  | v :: l, x, r, h => by
    unfold maxL at h
    split at h
    case h_1 => simp_all
    case h_2 e =>
      cases e
      simp only [List.foldlM_cons, Sem.run_bind]
      exact maxL_run k w _ _ _ h
    case h_3 => cases h
def nBuiltin (P : Program) (b : Builtin) (ts : Array TypeId) (t : TypeId) (args : List Value) (K : Value → World → Prop) (w : World) : Prop :=
  match b with
  | .len => match ts.toList with
    | ty :: _ => match P.underlying ty, args with
      | some (.slice _), [.slice _ n _] => K (.int .i64 (n : Int)) w
      | some .string, [.string s] => K (.int .i64 (s.size : Int)) w
      | some (.array n _), [_] => K (.int .i64 (n : Int)) w
      | some (.map _ _), _ => semT P t (Builtin.len_ ts t ⟨args⟩) K w
      | _, _ => False
    | _ => False
  | .min => match args with
    | .int k x :: r => match minL x r with
      | some n => K (.int k n) w
      | none => False
    | _ => False
  | .max => match args with
    | .int k x :: r => match maxL x r with
      | some n => K (.int k n) w
      | none => False
    | _ => False
  | .append => semT P t (Builtin.append_ ts t ⟨args⟩) K w
  | .copy => semT P t (Builtin.copy_ ts t ⟨args⟩) K w
  | .clear => semT P t (Builtin.clear_ ts t ⟨args⟩) K w
  | .delete => semT P t (Builtin.delete_ ts t ⟨args⟩) K w
  | .cap => semT P t (Builtin.cap_ ts t ⟨args⟩) K w
  | _ => False
theorem uponE_value {P : Program} {s : Sem Value} {K : Value → World → Prop} {w : World} (h : SemJ P s K w) : ∀ w1, Eqv w1 w → UponE P K ((do pure (Next.value (← s)) : Sem Next).run P w1) := by
  intro w1 he
  obtain ⟨v, w1', w', h1, h2, h3⟩ := h w1 he
  simp only [Sem.run_bind, h1, Result.andThen_ok, Sem.run_pure]
  exact ⟨w', h2, h3⟩
theorem uponE_skip {P : Program} {s : Sem Unit} {K : Value → World → Prop} {w : World} (h : SemJ P s (fun _ w' => K undef w') w) : ∀ w1, Eqv w1 w → UponE P K ((do s; pure Next.skip : Sem Next).run P w1) := by
  intro w1 he
  obtain ⟨v, w1', w', h1, h2, h3⟩ := h w1 he
  simp only [Sem.run_bind, h1, Result.andThen_ok, Sem.run_pure]
  exact ⟨w', h2, h3⟩
theorem SemJ.still {P : Program} {α : Type} {s : Sem α} {K : α → World → Prop} {w : World} (h : ∃ v, K v w ∧ ∀ w1, s.run P w1 = .ok v w1) : SemJ P s K w := by
  obtain ⟨v, h1, h2⟩ := h
  exact SemJ.ok (fun w1 _ => h2 w1) h1
theorem nBuiltin_sound {P : Program} {b : Builtin} {ts : Array TypeId} {t : TypeId} {cs : Array Bool} {args : List Value} {K : Value → World → Prop} {w : World} (h : nBuiltin P b ts t args K w) :
    ∀ w1, Eqv w1 w → UponE P K ((builtin b ts t cs ⟨args⟩).run P w1) := by
  unfold nBuiltin at h
  split at h
  case h_1 =>
    unfold builtin
    refine uponE_value ?_
    split at h
    case h_2 => exact h.elim
    rename_i ty l hts
    have hts' : ts[0]? = some ty := by rw [← Array.getElem?_toList, hts]; rfl
    split at h
    · rename_i e A n c hu
      exact SemJ.ok (fun w1 _ => by simp [Builtin.len_, hts', run_underlying hu, goInt]) h
    · rename_i s hu
      exact SemJ.ok (fun w1 _ => by simp [Builtin.len_, hts', run_underlying hu, goInt]) h
    · rename_i n e x hu
      exact SemJ.ok (fun w1 _ => by simp [Builtin.len_, hts', run_underlying hu, goInt]) h
    · exact semT_sound h
    · exact h.elim
  case h_2 =>
    unfold builtin
    refine uponE_value ?_
    split at h
    case h_2 => exact h.elim
    rename_i k x r
    split at h
    case h_2 => exact h.elim
    rename_i n hn
    exact SemJ.ok (fun w1 _ => by simp only [Builtin.min_]; exact minL_run k w1 r x n hn) h
  case h_3 =>
    unfold builtin
    refine uponE_value ?_
    split at h
    case h_2 => exact h.elim
    rename_i k x r
    split at h
    case h_2 => exact h.elim
    rename_i n hn
    exact SemJ.ok (fun w1 _ => by simp only [Builtin.max_]; exact maxL_run k w1 r x n hn) h
  case h_4 => unfold builtin; exact uponE_value (semT_sound h)
  case h_5 => unfold builtin; exact uponE_value (semT_sound h)
  case h_6 => unfold builtin; exact uponE_value (semT_sound h)
  case h_7 => unfold builtin; exact uponE_value (semT_sound h)
  case h_8 => unfold builtin; exact uponE_value (semT_sound h)
  case h_9 => exact h.elim

def callable (P : Program) (g : FuncId) : Bool :=
  match P.funcs[g]? with
  | some fn => !(fn.name == "runtime.NumGoroutine") && fn.body.isSome
  | none => false
def callT (P : Program) (g : FuncId) (t : TypeId) (args : List Value) (K : Value → World → Prop) (w : World) : Prop := CallsE P g ⟨args⟩ w fun v w' => typedT P t v fun v => K v w'
def nCall (P : Program) (σ : Fr) (c : Call) (t : TypeId) (K : Value → World → Prop) (w : World) : Prop :=
  match c.callee with
  | .value f => match ev σ f with
    | .func (.func g) first caps => match callable P g with
      | true => callT P g t (first.toList ++ c.args.toList.map (ev σ) ++ caps.toList) K w
      | false => False
    | _ => False
  | .builtin b => nBuiltin P b c.argTypes t (c.args.toList.map (ev σ)) K w
  | .invoke _ _ => False
theorem nCall_sound {P : Program} {σ : Fr} {c : Call} {t : TypeId} {K : Value → World → Prop} {w : World} (h : nCall P σ c t K w) :
    ∀ w1, Eqv w1 w → UponE P K ((do let d ← resolve (ev σ) c t; invoke d.target d.args : Sem Next).run P w1) := by
  intro w1 he
  unfold nCall at h
  split at h
  case h_1 =>
    rename_i f hc
    split at h
    case h_2 => exact h.elim
    rename_i g first caps hf
    split at h
    case h_2 => exact h.elim
    rename_i hg
    unfold callable at hg
    split at hg
    case h_2 => cases hg
    rename_i fn hfn
    simp only [Bool.and_eq_true, Bool.not_eq_true'] at hg
    obtain ⟨hn, hb⟩ := hg
    have hb' : fn.body.isNone = false := by cases hfb : fn.body <;> simp_all
    simp only [resolve, hc, Deferred.ofValue, hf, Sem.run_bind, Sem.run_pure, Result.andThen_ok, invoke, callFunc, run_program, hfn, hn, hb', Bool.false_eq_true, if_false, UponE]
    refine ⟨w, he, ?_⟩
    have e : first ++ Array.map (ev σ) c.args ++ caps = ⟨first.toList ++ c.args.toList.map (ev σ) ++ caps.toList⟩ := by
      apply Array.toList_inj.1
      simp
    rw [e]
    exact CallsE.mono h fun v w' h => typedT_elim h
  case h_2 =>
    rename_i b hc
    simp only [resolve, hc, Sem.run_bind, Sem.run_pure, Result.andThen_ok, invoke]
    have e : Array.map (ev σ) c.args = ⟨c.args.toList.map (ev σ)⟩ := by
      apply Array.toList_inj.1
      simp
    rw [e]
    exact nBuiltin_sound h w1 he
  case h_3 => exact h.elim

def nNil (x : Value) (K : Value → Prop) : Prop :=
  match x with
  | .pointer p => ∃ a, p = some a ∧ K (.pointer (some a))
  | .func (.func g) f c => K (.func (.func g) f c)
  | _ => False
def jf (σ : Fr) : Op → Bool
  | .pick c a b => nj (ev σ c) && nj (ev σ a) && nj (ev σ b)
  | .alloc _ => true
  | .box _ x | .load _ x | .nilCheck x | .unOp _ _ x | .convert _ _ x | .fieldAddr _ x _ | .field _ x _ | .extract x _ | .makeInterface _ x | .range _ x | .next x _ | .entry x => nj (ev σ x)
  | .build _ ps | .buildSlice _ _ ps => ps.toList.all fun p => nj (ev σ p.2)
  | .store _ a v | .binOp _ _ a v _ | .makeSlice _ a v | .indexAddr _ a v | .index _ a v | .lookup _ a v _ => nj (ev σ a) && nj (ev σ v)
  | .mapUpdate _ m k v | .insert _ m k v => nj (ev σ m) && nj (ev σ k) && nj (ev σ v)
  | .makeFunc _ f c => f.toList.all (fun x => nj (ev σ x)) && c.toList.all fun x => nj (ev σ x)
  | .makeMap _ r => match r with
    | none => true
    | some x => nj (ev σ x)
  | .slice _ x l h m => nj (ev σ x) && (match l with | none => true | some x => nj (ev σ x)) && (match h with | none => true | some x => nj (ev σ x)) && (match m with | none => true | some x => nj (ev σ x))
  | .call c => (match c.callee with | .value f => nj (ev σ f) | .builtin _ => true | .invoke _ _ => false) && c.args.toList.all fun x => nj (ev σ x)
  | _ => false
theorem jf_spec {σ : Fr} {op : Op} (h : jf σ op = true) : (∀ cs b, op ≠ .select cs b) ∧ ∀ x ∈ op.operands, isJunk (ev σ x) = false := by
  have nn : ∀ v, nj v = true → isJunk v = false := fun v h => by simpa [nj] using h
  refine ⟨fun cs b e => by subst e; simp [jf] at h, fun x hx => ?_⟩
  cases op <;> simp only [jf, Bool.and_eq_true, List.all_eq_true] at h <;> simp only [Op.operands, Call.operands] at hx <;>
    first
    | (simp at h; done)
    | (simp at hx; done)
    | (simp at hx; subst hx; exact nn _ h)
    | (simp at hx; rcases hx with rfl | rfl <;> first | exact nn _ h.1 | exact nn _ h.2)
    | (simp at hx; rcases hx with rfl | rfl | rfl <;> first | exact nn _ h.1.1 | exact nn _ h.1.2 | exact nn _ h.2)
    | skip
  case build t ps => simp at hx; obtain ⟨a, h'⟩ := hx; exact nn _ (h _ h'.val)
  case buildSlice t n ps => simp at hx; obtain ⟨a, h'⟩ := hx; exact nn _ (h _ h'.val)
  case makeFunc fn f c =>
    rcases Array.mem_append.1 hx with hx | hx
    · exact nn _ (h.1 _ hx.val)
    · exact nn _ (h.2 _ hx.val)
  case slice t y l hh m =>
    obtain ⟨⟨⟨h1, h2⟩, h3⟩, h4⟩ := h
    rcases Array.mem_append.1 hx with hx | hx
    · rcases Array.mem_append.1 hx with hx | hx
      · rcases Array.mem_append.1 hx with hx | hx
        · simp at hx; subst hx; exact nn _ h1
        · cases l with
          | none => simp at hx
          | some z => simp at hx; subst hx; exact nn _ h2
      · cases hh with
        | none => simp at hx
        | some z => simp at hx; subst hx; exact nn _ h3
    · cases m with
      | none => simp at hx
      | some z => simp at hx; subst hx; exact nn _ h4
  case call c =>
    obtain ⟨h1, h2⟩ := h
    rcases Array.mem_append.1 hx with hx | hx
    · split at hx
      · rename_i f hc
        simp at hx
        subst hx
        rw [hc] at h1
        exact nn _ h1
      · rename_i r m hc
        rw [hc] at h1
        cases h1
      · simp at hx
    · exact nn _ (h2 _ hx.val)
def aggEq (P : Program) (op : BinOp) (t : TypeId) (x y v : Value) : Prop := ∀ (X Y : Operand) (w : World), (do eqGuard op t X Y x y; binOp op t x y : Sem Value).run P w = .ok v w
def nBinG (P : Program) (op : BinOp) (t : TypeId) (x y : Value) (K : Value → Prop) : Prop :=
  match x, y with
  | .agg xs, .agg ys => ∃ b, aggEq P op t (.agg xs) (.agg ys) (.bool b) ∧ K (.bool b)
  | .nilIface, _ => False
  | x, y => nBin P op t x y K
theorem eqGuard_ok {P : Program} {op : BinOp} {t : TypeId} {X Y : Operand} {x y : Value} (h1 : x = .nilIface → False) (h2 : ∀ xs ys, x = .agg xs → y = .agg ys → False) (w : World) : (eqGuard op t X Y x y).run P w = .ok () w := by
  cases x with
  | nilIface => exact (h1 rfl).elim
  | agg xs => cases y with
    | agg ys => exact (h2 _ _ rfl rfl).elim
    | _ => cases op <;> rfl
  | _ => cases op <;> rfl
theorem nBinG_sound {P : Program} {op : BinOp} {t : TypeId} {x y : Value} {K : Value → Prop} (h : nBinG P op t x y K) (X Y : Operand) :
    ∃ v, K v ∧ ∀ w, (do eqGuard op t X Y x y; binOp op t x y : Sem Value).run P w = .ok v w := by
  unfold nBinG at h
  split at h
  case h_1 => obtain ⟨b, h1, h2⟩ := h; exact ⟨_, h2, fun w => h1 X Y w⟩
  case h_2 => exact h.elim
  case h_3 h1 h2 =>
    obtain ⟨v, hk, hr⟩ := nBin_sound h
    refine ⟨v, hk, fun w => ?_⟩
    have hg : (eqGuard op t X Y x y).run P w = .ok () w := eqGuard_ok h1 h2 w
    rw [Sem.run_bind, hg]
    exact hr w
def NOp (P : Program) (σ : Fr) (o : Oper) (K : Value → World → Prop) (w : World) : Prop :=
  match o.op with
  | .pick c a b => match ev σ c with
    | .bool t => K (match t with | true => ev σ a | false => ev σ b) w
    | _ => False
  | .alloc e => nAlloc P e K w
  | .box e x => nBox e (ev σ x) K w
  | .build t ps => nBuild P t (ps.toList.map fun p => (p.1, ev σ p.2)) fun v => K v w
  | .buildSlice t n ps => nBuildSlice P t n (ps.toList.map fun p => (p.1, ev σ p.2)) K w
  | .load t x => nLoad P t (ev σ x) K w
  | .store t a v => nStore P t (ev σ a) (ev σ v) (fun w' => K undef w') w
  | .nilCheck x => nNil (ev σ x) fun v => K v w
  | .binOp op t x y _ => nBinG P op t (ev σ x) (ev σ y) fun v => K v w
  | .unOp op _ x => nUn op (ev σ x) fun v => K v w
  | .convert s d x => nConv P s d (ev σ x) K w
  | .makeFunc fn f c => K (.func fn ⟨f.toList.map (ev σ)⟩ ⟨c.toList.map (ev σ)⟩) w
  | .makeMap t r => semT P o.type (Instr.makeMap t (r.map (ev σ))) K w
  | .makeSlice t l c => nMake P t (ev σ l) (ev σ c) K w
  | .slice t x l h m => nSlice P t (ev σ x) (l.map (ev σ)) (h.map (ev σ)) (m.map (ev σ)) fun v => K v w
  | .fieldAddr s x f => nFieldAddr P s (ev σ x) f fun v => K v w
  | .field t x f => nField P t (ev σ x) f fun v => K v w
  | .indexAddr t x i => nIndexAddr P t (ev σ x) (ev σ i) fun v => K v w
  | .index t x i => nIndex P t (ev σ x) (ev σ i) fun v => K v w
  | .lookup t x i ok => semT P o.type (Instr.lookup t (ev σ x) (ev σ i) ok) K w
  | .mapUpdate t m k x => SemJ P (Instr.mapUpdate t (ev σ m) (ev σ k) (ev σ x)) (fun _ w' => K undef w') w
  | .insert t m k x => SemJ P (Instr.mapUpdate t (ev σ m) (ev σ k) (ev σ x)) (fun _ w' => K undef w') w
  | .makeInterface t x => semT P o.type (Instr.makeInterface t (ev σ x)) K w
  | .range t x => semT P o.type (Instr.range t (ev σ x)) K w
  | .next x s => semT P o.type (Instr.next (ev σ x) s o.type) K w
  | .entry x => semT P o.type (Instr.entry (ev σ x)) K w
  | .extract x i => nExtract (ev σ x) i fun v => K v w
  | .call c => nCall P σ c o.type K w
  | _ => False
theorem NOp_sound {P : Program} {σ : Fr} {o : Oper} {K : Value → World → Prop} {w : World} (h : NOp P σ o K w) : OJ P (ev σ) o K w := by
  unfold NOp at h
  unfold OJ execOp
  split at h
  case h_29 => exact h.elim
  all_goals (rename_i hop; simp only [hop])
  case h_1 =>
    split at h
    case h_2 => exact h.elim
    rename_i b hb
    intro w1 he
    rw [hb]
    cases b <;> exact ⟨w, he, h⟩
  case h_2 => exact uponE_value (nAlloc_sound h)
  case h_3 => exact uponE_value (nBox_sound h)
  case h_4 t ps =>
    have e : (Array.map (fun x : Nat × Operand => (x.1, ev σ x.2)) ps) = ⟨ps.toList.map fun p => (p.1, ev σ p.2)⟩ := by
      apply Array.toList_inj.1
      simp
    rw [e]
    exact uponE_value (SemJ.still (nBuild_sound h))
  case h_5 t n ps =>
    have e : (Array.map (fun x : Nat × Operand => (x.1, ev σ x.2)) ps) = ⟨ps.toList.map fun p => (p.1, ev σ p.2)⟩ := by
      apply Array.toList_inj.1
      simp
    rw [e]
    exact uponE_value (nBuildSlice_sound h)
  case h_6 => exact uponE_value (nLoad_sound h)
  case h_7 => exact uponE_skip (nStore_sound h)
  case h_8 =>
    intro w1 he
    unfold nNil at h
    split at h
    · rename_i p hp
      obtain ⟨a, rfl, h⟩ := h
      rw [hp]
      exact ⟨w, he, h⟩
    · rename_i g f c hp
      rw [hp]
      exact ⟨w, he, h⟩
    · exact h.elim
  case h_9 => exact uponE_value (SemJ.still (nBinG_sound h _ _))
  case h_10 => exact uponE_value (SemJ.still (nUn_sound h))
  case h_11 => exact uponE_value (nConv_sound h)
  case h_12 fn f c =>
    refine uponE_value (SemJ.pure ?_)
    have e1 : Array.map (ev σ) f = ⟨f.toList.map (ev σ)⟩ := by apply Array.toList_inj.1; simp
    have e2 : Array.map (ev σ) c = ⟨c.toList.map (ev σ)⟩ := by apply Array.toList_inj.1; simp
    rw [e1, e2]
    exact h
  case h_13 => exact uponE_value (semT_sound h)
  case h_14 => exact uponE_value (nMake_sound h)
  case h_15 => exact uponE_value (SemJ.still (nSlice_sound h))
  case h_16 => exact uponE_value (SemJ.still (nFieldAddr_sound h))
  case h_17 => exact uponE_value (SemJ.still (nField_sound h))
  case h_18 => exact uponE_value (SemJ.still (nIndexAddr_sound h))
  case h_19 => exact uponE_value (SemJ.still (nIndex_sound h))
  case h_20 => exact uponE_value (semT_sound h)
  case h_21 => exact uponE_skip h
  case h_22 => exact uponE_skip h
  case h_23 => exact uponE_value (semT_sound h)
  case h_24 => exact uponE_value (semT_sound h)
  case h_25 => exact uponE_value (semT_sound h)
  case h_26 => exact uponE_value (semT_sound h)
  case h_27 => exact uponE_value (SemJ.still (nExtract_sound h))
  case h_28 => exact nCall_sound h

/-! ### 6. Lists of operations, code -/
/-- Is the operation carried out? none: not known. -/
def wantedS (ops : List Oper) (σ : Fr) (o : Oper) : Option Bool :=
  match o.guard with
  | none => some true
  | some (j, b) => match ops[j]? with
    | some oj => match oj.dst with
      | some t => match σ t with
        | .bool c => some (c == b)
        | .tuple vs => match vs.toList with
          | [] => some false
          | _ => none
        | _ => none
      | none => none
    | none => none
def isGuard (ops : List Oper) (i : Nat) : Bool := ops.any fun o => match o.guard with
  | some (j, _) => Nat.beq j i
  | none => false
/-- A guard's value is told apart at once. -/
def splitK (g : Bool) (v : Value) (K : Value → Prop) : Prop :=
  match g with
  | true => match v with
    | .bool c => condP c (K (.bool true)) (K (.bool false))
    | v => K v
  | false => K v
theorem splitK_elim {g : Bool} {v : Value} {K : Value → Prop} (h : splitK g v K) : K v := by
  unfold splitK at h
  split at h
  · split at h
    · rename_i c
      cases c <;> exact h
    · exact h
  · exact h
def stepS (P : Program) (σ : Fr) (o : Oper) (K : Value → World → Prop) (w : World) : Prop :=
  match o.op with
  | .move x => K (ev σ x) w
  | .assign x => K (ev σ x) w
  | op => match jf σ op with
    | true => NOp P σ o K w
    | false => False
def shOps (P : Program) (n : Nat) (ops : List Oper) : Nat → List Oper → (Fr → World → Prop) → Fr → World → Prop
  | _, [], K, σ, w => K σ w
  | i, o :: l, K, σ, w => match dstOk n o.dst with
    | true => match wantedS ops σ o with
      | some true => stepS P σ o (fun v w' => splitK (isGuard ops i) v fun v => shOps P n ops (i + 1) l K (updo σ o.dst v) w') w
      | some false => shOps P n ops (i + 1) l K (updo σ o.dst undef) w
      | none => False
    | false => False
theorem wantedS_spec {ops : Array Oper} {σ : Fr} {o : Oper} {b : Bool} (h : wantedS ops.toList σ o = some b) {tmps : Array Value} (hl : Le σ tmps) : Region.wanted o (yielded ops tmps) = b := by
  unfold wantedS at h
  unfold Region.wanted
  split at h
  · rename_i hg
    rw [hg]
    exact Option.some.inj h
  rename_i j want hg
  rw [hg]
  simp only
  split at h
  case h_2 => cases h
  rename_i oj hj
  split at h
  case h_2 => cases h
  rename_i t ht
  have hj' : ops[j]? = some oj := by simpa using hj
  unfold yielded
  simp only [hj', Option.bind_some, ht]
  split at h
  · rename_i c hc
    rcases hl t with h1 | h1
    · rw [hc] at h1; cases h1
    · rw [h1, hc]
      have := Option.some.inj h
      rw [← this]
      cases c <;> cases want <;> rfl
  · rename_i vs hv
    split at h
    case h_2 => cases h
    rename_i hvs
    rcases hl t with h1 | h1
    · rw [hv] at h1
      simp [isJunk] at h1
      split at h1
      · rename_i heq
        simp at heq
        rw [heq] at hvs
        simp at hvs
      · cases h1
    · rw [h1, hv]
      have := Option.some.inj h
      rw [← this]
      rfl
  · cases h
theorem upon_of_uponE {P : Program} {o : Oper} {a : Act} {next : Act → World → Prop} {Q : Exit → Act → World → Prop} {K : Value → World → Prop} {r : Result Next} (h : UponE P K r)
    (hn : ∀ v w1 w, Eqv w1 w → K v w → next (a.put o.dst v) w1) : o.upon P a next Q r := by
  cases r with
  | halt x w1 => exact h.elim
  | ok n w1 => cases n <;> simp only [UponE] at h <;> try exact h.elim
               · obtain ⟨w, h1, h2⟩ := h; exact hn _ _ _ h1 h2
               · obtain ⟨w, h1, h2⟩ := h; exact hn _ _ _ h1 h2
               · obtain ⟨w, h1, h2⟩ := h
                 refine (h2 _ h1).mono fun e w'' ⟨v, w', he, h3, h4⟩ => ?_
                 subst he
                 exact hn _ _ _ h3 h4
theorem stepS_sound {P : Program} {σ : Fr} {o : Oper} {K : Value → World → Prop} {w : World} (h : stepS P σ o K w) {a : Act} {w1 : World} (hl : Le σ a.tmps) (he : Eqv w1 w)
    {next : Act → World → Prop} {Q : Exit → Act → World → Prop} (hn : ∀ v u w1 w, Eqv w1 w → K v w → (isJunk v = true ∨ u = v) → next (a.put o.dst u) w1) : o.wp P a w1 next Q := by
  unfold Oper.wp
  unfold stepS at h
  have mv : ∀ x : Operand, isJunk (ev σ x) = true ∨ a.eval x = ev σ x := fun x => by
    cases hx : isJunk (ev σ x) with
    | true => exact .inl rfl
    | false => exact .inr (ev_eq hl hx)
  split at h
  · rename_i x hop
    unfold execOp
    rw [hop]
    exact hn _ _ _ _ he h (mv x)
  · rename_i x hop
    unfold execOp
    rw [hop]
    exact hn _ _ _ _ he h (mv x)
  · split at h
    case h_2 => exact h.elim
    rename_i hj
    obtain ⟨hs, hjj⟩ := jf_spec hj
    have e : execOp a.eval o = execOp (ev σ) o := execOp_congr o hs fun x hx => ev_eq hl (hjj x hx)
    rw [e]
    exact upon_of_uponE (NOp_sound h w1 he) fun v w1 w h1 h2 => hn v v w1 w h1 h2 (.inr rfl)
theorem shOps_sound {P : Program} {n : Nat} {ops : Array Oper} {Q : Exit → Fr → World → Prop} : ∀ (l : List Oper) (i : Nat) (σ : Fr) (w : World), (∀ j, l[j]? = ops.toList[i + j]?) →
    shOps P n ops.toList i l (fun σ w => Q .normal σ w) σ w → ∀ (a : Act) (w1 : World), a.defers = [] → a.tmps.size = n → Le σ a.tmps → Eqv w1 w → wpOps P ops (Lift n Q) (List.range' i l.length) a w1
  | [], i, σ, w, hl, h, a, w1, h1, h2, h3, h4 => ⟨h1, h2, σ, w, h3, h4, h⟩
  | o :: l, i, σ, w, hl, h, a, w1, h1, h2, h3, h4 => by
    have h0 : ops[i]? = some o := by have := hl 0; simpa using this.symm
    have hl' : ∀ j, l[j]? = ops.toList[i + 1 + j]? := fun j => by
      have := hl (j + 1)
      rw [show i + 1 + j = i + (j + 1) from by omega]
      simpa using this
    unfold shOps at h
    split at h
    case h_2 => exact h.elim
    rename_i hd
    simp only [List.length_cons, List.range'_succ, wpOps, h0]
    split at h
    case h_3 => exact h.elim
    · rename_i hw
      rw [if_pos (wantedS_spec hw h3)]
      left
      refine stepS_sound h h3 h4 fun v u w1' w' he hk hu => ?_
      have hk' := splitK_elim hk
      refine shOps_sound l (i + 1) (updo σ o.dst v) w' hl' hk' (a.put o.dst u) w1' (by rw [defers_put]; exact h1) (by rw [size_put]; exact h2) ?_ he
      rcases hu with hu | rfl
      · cases hdd : o.dst with
        | none => exact h3
        | some d => exact h3.put_junk d h2 (by rw [← hdd]; exact hd) u v hu
      · exact h3.put h2 hd _
    · rename_i hw
      rw [if_neg (by rw [wantedS_spec hw h3]; simp)]
      exact shOps_sound l (i + 1) (updo σ o.dst undef) w hl' h (a.put o.dst undef) w1 (by rw [defers_put]; exact h1) (by rw [size_put]; exact h2) (h3.put h2 hd _) h4

def quietB (P : Program) : Op → Bool
  | .move _ | .assign _ | .pick _ _ _ | .load _ _ | .nilCheck _ | .binOp _ _ _ _ _ | .unOp _ _ _ | .convert _ _ _ | .slice _ _ _ _ _ | .fieldAddr _ _ _ | .field _ _ _ | .indexAddr _ _ _ | .index _ _ _ | .extract _ _ => true
  | .call c => match c.callee with
    | .builtin b => match b, c.argTypes.toList with
      | .len, ty :: _ => match P.underlying ty with
        | some (.slice _) => true
        | some .string => true
        | some (.array _ _) => true
        | _ => false
      | .min, _ => true
      | .max, _ => true
      | _, _ => false
    | _ => false
  | _ => false
theorem run_value {P : Program} {s : Sem Value} {v : Value} {w1 w2 : World} (h : s.run P w1 = .ok v w2) : (do Pure.pure (Next.value (← s)) : Sem Next).run P w1 = .ok (.value v) w2 := by
  simp only [Sem.run_bind, h, Result.andThen_ok, Sem.run_pure]
theorem NOp_quiet {P : Program} {σ : Fr} {o : Oper} {K : Value → World → Prop} {w : World} (hq : quietB P o.op = true) (hm : (∀ x, o.op ≠ .move x) ∧ ∀ x, o.op ≠ .assign x) (h : NOp P σ o K w) :
    ∃ v, K v w ∧ ∀ w1, Eqv w1 w → (execOp (ev σ) o).run P w1 = .ok (.value v) w1 := by
  unfold NOp at h
  unfold execOp
  split at h
  case h_29 => exact h.elim
  all_goals (rename_i hop; simp only [hop]; rw [hop] at hq)
  case h_1 =>
    split at h
    case h_2 => exact h.elim
    rename_i b hb
    refine ⟨_, h, fun w1 he => ?_⟩
    rw [hb]
    cases b <;> rfl
  case h_6 =>
    obtain ⟨v, hk, a, ha, hr⟩ := nLoad_val h
    exact ⟨v, hk, fun w1 he => run_value (by rw [ha]; simpa [Instr.loadAt, Instr.sureAddr] using hr w1 he)⟩
  case h_8 =>
    unfold nNil at h
    split at h
    · rename_i p hp
      obtain ⟨a, rfl, h⟩ := h
      rw [hp]
      exact ⟨_, h, fun w1 he => rfl⟩
    · rename_i g f c hp
      rw [hp]
      exact ⟨_, h, fun w1 he => rfl⟩
    · exact h.elim
  case h_9 => obtain ⟨v, hk, hr⟩ := nBinG_sound h _ _; exact ⟨v, hk, fun w1 he => run_value (hr w1)⟩
  case h_10 => obtain ⟨v, hk, hr⟩ := nUn_sound h; exact ⟨v, hk, fun w1 he => run_value (hr w1)⟩
  case h_11 => obtain ⟨v, hk, hr⟩ := nConv_val h; exact ⟨v, hk, fun w1 he => run_value (hr w1 he)⟩
  case h_15 => obtain ⟨v, hk, hr⟩ := nSlice_sound h; exact ⟨v, hk, fun w1 he => run_value (hr w1)⟩
  case h_16 => obtain ⟨v, hk, hr⟩ := nFieldAddr_sound h; exact ⟨v, hk, fun w1 he => run_value (hr w1)⟩
  case h_17 => obtain ⟨v, hk, hr⟩ := nField_sound h; exact ⟨v, hk, fun w1 he => run_value (hr w1)⟩
  case h_18 => obtain ⟨v, hk, hr⟩ := nIndexAddr_sound h; exact ⟨v, hk, fun w1 he => run_value (hr w1)⟩
  case h_19 => obtain ⟨v, hk, hr⟩ := nIndex_sound h; exact ⟨v, hk, fun w1 he => run_value (hr w1)⟩
  case h_27 => obtain ⟨v, hk, hr⟩ := nExtract_sound h; exact ⟨v, hk, fun w1 he => run_value (hr w1)⟩
  case h_28 c =>
    simp only [quietB] at hq
    split at hq
    case h_2 => cases hq
    rename_i b hc
    unfold nCall at h
    rw [hc] at h
    simp only at h
    have e : Array.map (ev σ) c.args = ⟨c.args.toList.map (ev σ)⟩ := by
      apply Array.toList_inj.1
      simp
    simp only [resolve, hc, invoke, Sem.run_bind, Sem.run_pure, Result.andThen_ok, e]
    unfold nBuiltin at h
    split at hq
    · rename_i ty l hts
      have hts' : c.argTypes[0]? = some ty := by rw [← Array.getElem?_toList, hts]; rfl
      simp only [hts] at h
      split at h
      · rename_i _ _ e A n cc hu hargs
        exact ⟨_, h, fun w1 he => by simp only [builtin, hargs]; exact run_value (by simp [Builtin.len_, hts', run_underlying hu, goInt])⟩
      · rename_i _ _ s hu hargs
        exact ⟨_, h, fun w1 he => by simp only [builtin, hargs]; exact run_value (by simp [Builtin.len_, hts', run_underlying hu, goInt])⟩
      · rename_i _ _ n e x hu hargs
        exact ⟨_, h, fun w1 he => by simp only [builtin, hargs]; exact run_value (by simp [Builtin.len_, hts', run_underlying hu, goInt])⟩
      · rename_i k e hu
        rw [hu] at hq
        simp at hq
      · exact h.elim
    · simp only at h
      split at h
      case h_2 => exact h.elim
      rename_i k x r hargs
      split at h
      case h_2 => exact h.elim
      rename_i n hn
      exact ⟨_, h, fun w1 he => by simp only [builtin, hargs]; exact run_value (by simp only [Builtin.min_]; exact minL_run k w1 r x n hn)⟩
    · simp only at h
      split at h
      case h_2 => exact h.elim
      rename_i k x r hargs
      split at h
      case h_2 => exact h.elim
      rename_i n hn
      exact ⟨_, h, fun w1 he => by simp only [builtin, hargs]; exact run_value (by simp only [Builtin.max_]; exact maxL_run k w1 r x n hn)⟩
    · cases hq
  all_goals (simp [quietB] at hq)
theorem stepS_quiet {P : Program} {σ : Fr} {o : Oper} {K : Value → World → Prop} {w : World} (hq : quietB P o.op = true) (h : stepS P σ o K w) {a : Act} (hl : Le σ a.tmps) :
    ∃ v u, K v w ∧ (isJunk v = true ∨ u = v) ∧ ∀ w1, Eqv w1 w → (execOp a.eval o).run P w1 = .ok (.value u) w1 := by
  unfold stepS at h
  have mv : ∀ x : Operand, isJunk (ev σ x) = true ∨ a.eval x = ev σ x := fun x => by
    cases hx : isJunk (ev σ x) with
    | true => exact .inl rfl
    | false => exact .inr (ev_eq hl hx)
  split at h
  · rename_i x hop
    refine ⟨_, _, h, mv x, fun w1 he => ?_⟩
    unfold execOp
    rw [hop]
    rfl
  · rename_i x hop
    refine ⟨_, _, h, mv x, fun w1 he => ?_⟩
    unfold execOp
    rw [hop]
    rfl
  · rename_i hm1 hm2
    split at h
    case h_2 => exact h.elim
    rename_i hj
    obtain ⟨hs, hjj⟩ := jf_spec hj
    have e : execOp a.eval o = execOp (ev σ) o := execOp_congr o hs fun x hx => ev_eq hl (hjj x hx)
    obtain ⟨v, hk, hr⟩ := NOp_quiet hq ⟨fun x e => hm1 x e, fun x e => hm2 x e⟩ h
    exact ⟨v, v, hk, .inr rfl, fun w1 he => by rw [e]; exact hr w1 he⟩
theorem shOps_quiet {P : Program} {n : Nat} {ops : Array Oper} {Q : Exit → Fr → World → Prop} {w : World} : ∀ (l : List Oper) (i : Nat) (σ : Fr), (∀ o ∈ l, quietB P o.op = true) →
    shOps P n ops.toList i l (fun σ w => Q .normal σ w) σ w → ∀ (a : Act), a.defers = [] → a.tmps.size = n → Le σ a.tmps →
    wpQuiet P ops (fun w1 => Eqv w1 w) (fun a' => ∀ w1, Eqv w1 w → Lift n Q .normal a' w1) l a
  | [], i, σ, hq, h, a, h1, h2, h3 => fun w1 he => ⟨h1, h2, σ, w, h3, he, h⟩
  | o :: l, i, σ, hq, h, a, h1, h2, h3 => by
    have hqo : quietB P o.op = true := hq o (by simp)
    have hql : ∀ o ∈ l, quietB P o.op = true := fun o' ho => hq o' (List.mem_cons_of_mem _ ho)
    unfold shOps at h
    split at h
    case h_2 => exact h.elim
    rename_i hd
    unfold wpQuiet
    split at h
    case h_3 => exact h.elim
    · rename_i hw
      rw [if_pos (wantedS_spec hw h3)]
      obtain ⟨v, u, hk, hu, hr⟩ := stepS_quiet hqo h h3
      have hk' := splitK_elim hk
      refine ⟨u, fun w1 he => ?_, ?_⟩
      · unfold Oper.quietAt
        rw [hr w1 he]
        exact ⟨rfl, rfl⟩
      · refine shOps_quiet l (i + 1) (updo σ o.dst v) hql hk' (a.put o.dst u) (by rw [defers_put]; exact h1) (by rw [size_put]; exact h2) ?_
        rcases hu with hu | rfl
        · cases hdd : o.dst with
          | none => exact h3
          | some d => exact h3.put_junk d h2 (by rw [← hdd]; exact hd) u v hu
        · exact h3.put h2 hd _
    · rename_i hw
      rw [if_neg (by rw [wantedS_spec hw h3]; simp)]
      exact shOps_quiet l (i + 1) (updo σ o.dst undef) hql h (a.put o.dst undef) (by rw [defers_put]; exact h1) (by rw [size_put]; exact h2) (h3.put h2 hd _)
def drawOk (P : Program) (ops : Array Oper) : Bool := P.follows .mixedOrders && Region.lexB .any ops && ops.toList.all fun o => quietB P o.op
theorem J_quiet {P : Program} {n : Nat} {id : Nat} {ops : Array Oper} {Q : Exit → Fr → World → Prop} {σ : Fr} {w : World} (hd : drawOk P ops = true)
    (h : shOps P n ops.toList 0 ops.toList (fun σ w => Q .normal σ w) σ w) : J P n (.region id ops true) Q σ w := by
  simp only [drawOk, Bool.and_eq_true, List.all_eq_true] at hd
  obtain ⟨⟨h1, h2⟩, h3⟩ := hd
  intro a w1 k1 k2 k3 k4
  exact wp_region_quiet (C := fun w1 => Eqv w1 w) h1 h2 ⟨k4.heap, k4.tape, k4.os, k4.output⟩ (shOps_quiet ops.toList 0 σ h3 h a k1 k2 k3)

def Qng (Q : Exit → Fr → World → Prop) : Exit → Fr → World → Prop
  | .goto _, _, _ => False
  | e, σ, w => Q e σ w
theorem J_label {P : Program} {n : Nat} {Q : Exit → Fr → World → Prop} {σ : Fr} {w : World} {l : Nat} (h : Q .normal σ w) : J P n (.label l) Q σ w := fun a w1 h1 h2 h3 h4 => wp_label ⟨h1, h2, σ, w, h3, h4, h⟩
theorem J_scope {P : Program} {n : Nat} {Q : Exit → Fr → World → Prop} {σ : Fr} {w : World} {c : Code} (h : J P n c (Qng Q) σ w) : J P n (.scope c) Q σ w :=
  fun a w1 h1 h2 h3 h4 => wp_scope_straight (wp_mono (h a w1 h1 h2 h3 h4) fun e a' w1' ⟨p1, p2, σ', w', p3, p4, p5⟩ => by
    cases e with
    | goto l => exact p5.elim
    | normal => exact ⟨p1, p2, σ', w', p3, p4, p5⟩
    | exit id => exact ⟨p1, p2, σ', w', p3, p4, p5⟩
    | ret => exact ⟨p1, p2, σ', w', p3, p4, p5⟩
    | panic c => exact ⟨p1, p2, σ', w', p3, p4, p5⟩
    | outgrown => exact ⟨p1, p2, σ', w', p3, p4, p5⟩)
def sh (P : Program) (n : Nat) : Code → (Exit → Fr → World → Prop) → Fr → World → Prop
  | .skip, Q, σ, w => Q .normal σ w
  | .region _ ops false, Q, σ, w => shOps P n ops.toList 0 ops.toList (fun σ w => Q .normal σ w) σ w
  | .region _ ops true, Q, σ, w => match drawOk P ops with
    | true => shOps P n ops.toList 0 ops.toList (fun σ w => Q .normal σ w) σ w
    | false => False
  | .seq x y, Q, σ, w => sh P n x (Qthen (fun σ w => sh P n y Q σ w) Q) σ w
  | .cond c x y, Q, σ, w => match ev σ c with
    | .bool b => condP b (sh P n x Q σ w) (sh P n y Q σ w)
    | _ => False
  | .block id c, Q, σ, w => sh P n c (Qblock id Q) σ w
  | .exit id, Q, σ, w => Q (.exit id) σ w
  | .ret, Q, σ, w => Q .ret σ w
  | .label _, Q, σ, w => Q .normal σ w
  | .scope c, Q, σ, w => sh P n c (Qng Q) σ w
  | _, _, _, _ => False
theorem sh_sound {P : Program} {n : Nat} : ∀ (c : Code) (Q : Exit → Fr → World → Prop) (σ : Fr) (w : World), sh P n c Q σ w → J P n c Q σ w
  | .skip, Q, σ, w, h => J_skip h
  | .region id ops false, Q, σ, w, h => fun a w1 h1 h2 h3 h4 => wp_region (by
      have := shOps_sound (Q := Q) ops.toList 0 σ w (fun j => by simp) h a w1 h1 h2 h3 h4
      rw [List.range_eq_range']
      simpa using this)
  | .region id ops true, Q, σ, w, h => by
    unfold sh at h
    split at h
    case h_2 => exact h.elim
    rename_i hd
    exact J_quiet hd h
  | .seq x y, Q, σ, w, h => J_seq (fun σ w => sh P n y Q σ w) (sh_sound x _ σ w h) fun σ' w' h' => sh_sound y Q σ' w' h'
  | .cond c x y, Q, σ, w, h => by
    unfold sh at h
    split at h
    case h_2 => exact h.elim
    rename_i b hb
    refine J_cond hb ?_
    cases b with
    | true => exact sh_sound x Q σ w h
    | false => exact sh_sound y Q σ w h
  | .block id c, Q, σ, w, h => J_block (sh_sound c _ σ w h)
  | .exit id, Q, σ, w, h => J_exit h
  | .ret, Q, σ, w, h => J_ret h
  | .loop _, _, _, _, h => h.elim
  | .rangeFunc _ _ _ _, _, _, _, h => h.elim
  | .scope c, Q, σ, w, h => J_scope (sh_sound c _ σ w h)
  | .label l, Q, σ, w, h => J_label h
  | .goto _, _, _, _, h => h.elim
  | .refuse _, _, _, _, h => h.elim

/-! ### 7. A whole function -/
/-- The results of a function, read off the frame. -/
def resK (P : Program) (σ : Fr) (w : World) : List ResultVar → (List Value → Prop) → Prop
  | [], K => K []
  | .tmp t :: r, K => match nj (σ t) with
    | true => resK P σ w r fun vs => K (σ t :: vs)
    | false => False
  | .cell a t :: r, K => nLoad P t (σ a) (fun v _ => resK P σ w r fun vs => K (v :: vs)) w
def retV : List Value → Value
  | [v] => v
  | vs => .tuple ⟨vs⟩
def Qend (P : Program) (rs : List ResultVar) (K : Value → World → Prop) : Exit → Fr → World → Prop
  | .normal, σ, w => resK P σ w rs fun vs => K (retV vs) w
  | .ret, σ, w => resK P σ w rs fun vs => K (retV vs) w
  | _, _, _ => False
/-- The frame at the beginning. -/
def args0 : List Value → Nat → Fr
  | [], _ => fun _ => undef
  | v :: vs, i => upd (args0 vs (i + 1)) i v
def init (n : Nat) (args : List Value) : Fr := fun t => bif Nat.blt t n then (match args[t]? with | some v => v | none => undef) else junk
def resF (tmps : Array Value) : ResultVar → Sem Value
  | .tmp t => Pure.pure (tmps.getD t undef)
  | .cell a t => do loadVar t (← asAddr (tmps.getD a undef))
theorem asAddr_some (p : Addr) : asAddr (.pointer (some p)) = Pure.pure p := rfl
theorem resK_run {P : Program} {tmps : Array Value} {σ : Fr} (hl : Le σ tmps) {w w1 : World} (he : Eqv w1 w) : ∀ (rs : List ResultVar) (K : List Value → Prop), resK P σ w rs K →
    ∃ vs, K vs ∧ (rs.mapM (resF tmps)).run P w1 = .ok vs w1
  | [], K, h => ⟨[], h, rfl⟩
  | .tmp t :: r, K, h => by
    unfold resK at h
    split at h
    case h_2 => exact h.elim
    rename_i hj
    obtain ⟨vs, h1, h2⟩ := resK_run hl he r _ h
    refine ⟨_, h1, ?_⟩
    have e : tmps.getD t undef = σ t := by
      rcases hl t with h3 | h3
      · simp [nj, h3] at hj
      · simp [Array.getD_eq_getD_getElem?, h3]
    simp only [List.mapM_cons, Sem.run_bind, Sem.run_pure, Result.andThen_ok, h2, resF, e]
  | .cell a t :: r, K, h => by
    unfold resK at h
    obtain ⟨v, h1, p, hp, h2⟩ := nLoad_val h
    obtain ⟨vs, h3, h4⟩ := resK_run hl he r _ h1
    refine ⟨_, h3, ?_⟩
    have e : tmps.getD a undef = .pointer (some p) := by
      rcases hl a with h5 | h5
      · rw [hp] at h5; cases h5
      · simp [Array.getD_eq_getD_getElem?, h5, hp]
    simp only [List.mapM_cons, resF, e, asAddr_some, pure_bind, Sem.run_bind, Sem.run_pure, Result.andThen_ok, h2 w1 he, h4]
theorem results_run {P : Program} {fn : Func} {a : Act} {σ : Fr} (hl : Le σ a.tmps) {w w1 : World} (he : Eqv w1 w) {rs : List ResultVar} (hrs : fn.results.toList = rs) {K : Value → World → Prop}
    (h : resK P σ w rs fun vs => K (retV vs) w) : ∃ v, K v w ∧ (results fn a.tmps).run P w1 = .ok v w1 := by
  obtain ⟨vs, h1, h2⟩ := resK_run hl he rs _ h
  refine ⟨_, h1, ?_⟩
  have e0 : results fn a.tmps = (do let vs ← fn.results.mapM (resF a.tmps); Pure.pure (if h : vs.size = 1 then vs[0] else .tuple vs)) := by
    unfold results
    congr 1
  rw [e0, Sem.run_bind, Array.mapM_eq_mapM_toList, hrs, Sem.run_map]
  rw [h2]
  simp only [Result.andThen_ok, Sem.run_pure]
  congr 1
  match vs with
  | [] => rfl
  | [v] => rfl
  | u :: v :: r => simp [retV]
theorem init_le {n : Nat} {args : List Value} (hn : args.length ≤ n) : Le (init n args) ((⟨args⟩ : Array Value) ++ Array.replicate (n - args.length) undef) := by
  intro t
  unfold init
  cases hb : Nat.blt t n with
  | false => exact .inl rfl
  | true =>
    right
    have ht : t < n := by simpa [Nat.blt_eq] using hb
    simp only [cond_true]
    rw [Array.getElem?_append]
    by_cases h : t < args.length
    · have h' : t < (⟨args⟩ : Array Value).size := h
      rw [if_pos h']
      simp [List.getElem?_eq_getElem h]
    · have h' : ¬ t < (⟨args⟩ : Array Value).size := h
      rw [if_neg h']
      simp only [List.getElem?_eq_none (Nat.le_of_not_lt h), Array.getElem?_replicate]
      have h2 : t - (⟨args⟩ : Array Value).size < n - args.length := by
        show t - args.length < n - args.length
        omega
      rw [if_pos h2]
theorem calls_of_J {P : Program} {f : FuncId} {fn : Func} {c : Code} {n : Nat} {rs : List ResultVar} {args : List Value} {w : World} {K : Value → World → Prop}
    (hf : P.funcs[f]? = some fn) (hb : fn.body = some c) (hn : fn.ntmps = n) (hrs : fn.results.toList = rs) (ha : Nat.ble args.length n = true)
    (h : J P n c (Qend P rs K) (init n args) w) : CallsE P f ⟨args⟩ w K := by
  intro w1 he
  refine calls_of_wp hf hb ?_
  have ha' : args.length ≤ n := Nat.le_of_ble_eq_true ha
  have hs : ((⟨args⟩ : Array Value) ++ Array.replicate (fn.ntmps - (⟨args⟩ : Array Value).size) undef).size = n := by
    simp [hn]; omega
  refine wp_mono (h { tmps := (⟨args⟩ : Array Value) ++ Array.replicate (fn.ntmps - (⟨args⟩ : Array Value).size) undef, defers := [] } w1 rfl hs (by
    simp only [hn]; exact init_le ha') he) fun e a w1' ⟨h1, h2, σ, w', h3, h4, h5⟩ => ?_
  cases e with
  | normal =>
    obtain ⟨v, hk, hr⟩ := results_run h3 h4 hrs h5
    exact ⟨h1, v, hr, v, w', rfl, h4, hk⟩
  | ret =>
    obtain ⟨v, hk, hr⟩ := results_run h3 h4 hrs h5
    exact ⟨h1, v, hr, v, w', rfl, h4, hk⟩
  | exit id => exact h5.elim
  | goto l => exact h5.elim
  | panic c => exact h5.elim
  | outgrown => exact h5.elim

/-! ### 8. Views: a frame's slots told by their kinds -/
def vI (k : IntKind) (v : Value) (F : Int → Prop) : Prop :=
  match v with
  | .int k' n => match decEq k' k with
    | isTrue _ => F n
    | isFalse _ => False
  | _ => False
def vB (v : Value) (F : Bool → Prop) : Prop :=
  match v with
  | .bool b => F b
  | _ => False
def vStr (v : Value) (F : ByteArray → Prop) : Prop :=
  match v with
  | .string s => F s
  | _ => False
def vS (v : Value) (F : Option Addr → Nat → Nat → Prop) : Prop :=
  match v with
  | .slice A n c => F A n c
  | _ => False
def vP (v : Value) (F : Option Addr → Prop) : Prop :=
  match v with
  | .pointer p => F p
  | _ => False
def vPa (v : Value) (F : Addr → Prop) : Prop :=
  match v with
  | .pointer (some a) => F a
  | _ => False
def vV (v : Value) (F : Value → Prop) : Prop := F v
theorem vPa_elim {v : Value} {F : Addr → Prop} (h : vPa v F) : ∃ b, v = .pointer (some b) ∧ F b := by
  unfold vPa at h
  split at h
  · exact ⟨_, rfl, h⟩
  · exact h.elim
theorem vV_elim {v : Value} {F : Value → Prop} (h : vV v F) : ∃ b, v = b ∧ F b := ⟨v, rfl, h⟩
def vM (v : Value) (F : Option Nat → Prop) : Prop :=
  match v with
  | .map m => F m
  | _ => False
def vF (v : Value) (F : FuncId → Array Value → Prop) : Prop :=
  match v with
  | .func (.func g) ⟨[]⟩ c => F g c
  | _ => False
def vA (v : Value) (F : List Value → Prop) : Prop :=
  match v with
  | .agg cs => F cs.toList
  | _ => False
def vC (l : List Value) (F : Value → List Value → Prop) : Prop :=
  match l with
  | v :: r => F v r
  | [] => False
def vN (l : List Value) (F : Prop) : Prop :=
  match l with
  | [] => F
  | _ => False
theorem vI_elim {k : IntKind} {v : Value} {F : Int → Prop} (h : vI k v F) : ∃ n, v = .int k n ∧ F n := by
  unfold vI at h
  split at h
  · split at h
    · rename_i e _; subst e; exact ⟨_, rfl, h⟩
    · exact h.elim
  · exact h.elim
theorem vB_elim {v : Value} {F : Bool → Prop} (h : vB v F) : ∃ b, v = .bool b ∧ F b := by
  unfold vB at h; split at h
  · exact ⟨_, rfl, h⟩
  · exact h.elim
theorem vStr_elim {v : Value} {F : ByteArray → Prop} (h : vStr v F) : ∃ b, v = .string b ∧ F b := by
  unfold vStr at h; split at h
  · exact ⟨_, rfl, h⟩
  · exact h.elim
theorem vS_elim {v : Value} {F : Option Addr → Nat → Nat → Prop} (h : vS v F) : ∃ A n c, v = .slice A n c ∧ F A n c := by
  unfold vS at h; split at h
  · exact ⟨_, _, _, rfl, h⟩
  · exact h.elim
theorem vP_elim {v : Value} {F : Option Addr → Prop} (h : vP v F) : ∃ b, v = .pointer b ∧ F b := by
  unfold vP at h; split at h
  · exact ⟨_, rfl, h⟩
  · exact h.elim
theorem vM_elim {v : Value} {F : Option Nat → Prop} (h : vM v F) : ∃ b, v = .map b ∧ F b := by
  unfold vM at h; split at h
  · exact ⟨_, rfl, h⟩
  · exact h.elim
theorem vF_elim {v : Value} {F : FuncId → Array Value → Prop} (h : vF v F) : ∃ g c, v = .func (.func g) #[] c ∧ F g c := by
  unfold vF at h; split at h
  · exact ⟨_, _, rfl, h⟩
  · exact h.elim
theorem vA_elim {v : Value} {F : List Value → Prop} (h : vA v F) : ∃ l, v = .agg ⟨l⟩ ∧ F l := by
  unfold vA at h; split at h
  · exact ⟨_, rfl, h⟩
  · exact h.elim
theorem vC_elim {l : List Value} {F : Value → List Value → Prop} (h : vC l F) : ∃ v r, l = v :: r ∧ F v r := by
  unfold vC at h; split at h
  · exact ⟨_, _, rfl, h⟩
  · exact h.elim
theorem vN_elim {l : List Value} {F : Prop} (h : vN l F) : l = [] ∧ F := by
  unfold vN at h; split at h
  · exact ⟨rfl, h⟩
  · exact h.elim
theorem condP_mono {b : Bool} {A B A' B' : Prop} (h : condP b A B) (ha : A → A') (hb : B → B') : condP b A' B' := by
  cases b
  · exact hb h
  · exact ha h
theorem J_cond' {P : Program} {n : Nat} {Q : Exit → Fr → World → Prop} {σ : Fr} {w : World} {c : Operand} {x y : Code} {b : Bool} {A B : Prop} (h : condP b A B) (hb : ev σ c = .bool b) (ha : A → J P n x Q σ w) (hb' : B → J P n y Q σ w) : J P n (.cond c x y) Q σ w :=
  J_cond hb (condP_mono h ha hb')
/-- A world under a name. -/
def wlet (w : World) (F : World → Prop) : Prop := F w

/-! ### 9. For those who prove -/
theorem wlet_intro {w : World} {F : World → Prop} (h : ∀ w', w' = w → F w') : wlet w F := h w rfl
theorem cond_dec {p : Prop} [Decidable p] {A B : Prop} (ha : p → A) (hb : ¬ p → B) : condP (decide p) A B := by
  by_cases h : p
  · rw [decide_eq_true h]; exact ha h
  · rw [decide_eq_false h]; exact hb h
theorem cond_eq {α : Type} [BEq α] [LawfulBEq α] {a b : α} {A B : Prop} (ha : a = b → A) (hb : a ≠ b → B) : condP (a == b) A B := by
  cases h : (a == b) with
  | true => exact ha (eq_of_beq h)
  | false => exact hb (fun e => by subst e; simp at h)
theorem cond_ne {α : Type} [BEq α] [LawfulBEq α] {a b : α} {A B : Prop} (ha : a ≠ b → A) (hb : a = b → B) : condP (a != b) A B := by
  unfold bne
  cases h : (a == b) with
  | true => exact hb (eq_of_beq h)
  | false => exact ha (fun e => by subst e; simp at h)
theorem cond_b {b : Bool} {A B : Prop} (ha : b = true → A) (hb : b = false → B) : condP b A B := by
  cases b
  · exact hb rfl
  · exact ha rfl
theorem cond_not {b : Bool} {A B : Prop} (h : condP b B A) : condP (!b) A B := by cases b <;> exact h
theorem CallsE.use {P : Program} {f : FuncId} {args : Array Value} {w : World} {K K' : Value → World → Prop} (h : CallsE P f args w K) (hk : ∀ v w', K v w' → K' v w') : CallsE P f args w K' := h.mono hk

/-! ### 10. Regions that draw their order, and call or write -/
def pureB (P : Program) : Op → Bool
  | .load _ _ => false
  | .convert _ d _ => match P.underlying d with
    | some (.int _) => true
    | _ => false
  | op => quietB P op
theorem NOp_pure {P : Program} {σ : Fr} {o : Oper} {K : Value → World → Prop} {w : World} (hq : pureB P o.op = true) (hm : (∀ x, o.op ≠ .move x) ∧ ∀ x, o.op ≠ .assign x) (h : NOp P σ o K w) :
    ∃ v, K v w ∧ ∀ w1, (execOp (ev σ) o).run P w1 = .ok (.value v) w1 := by
  unfold NOp at h
  unfold execOp
  split at h
  case h_29 => exact h.elim
  all_goals (rename_i hop; simp only [hop]; rw [hop] at hq)
  case h_1 =>
    split at h
    case h_2 => exact h.elim
    rename_i b hb
    refine ⟨_, h, fun w1 => ?_⟩
    rw [hb]
    cases b <;> rfl
  case h_8 =>
    unfold nNil at h
    split at h
    · rename_i p hp
      obtain ⟨a, rfl, h⟩ := h
      rw [hp]
      exact ⟨_, h, fun w1 => rfl⟩
    · rename_i g f c hp
      rw [hp]
      exact ⟨_, h, fun w1 => rfl⟩
    · exact h.elim
  case h_9 => obtain ⟨v, hk, hr⟩ := nBinG_sound h _ _; exact ⟨v, hk, fun w1 => run_value (hr w1)⟩
  case h_10 => obtain ⟨v, hk, hr⟩ := nUn_sound h; exact ⟨v, hk, fun w1 => run_value (hr w1)⟩
  case h_11 s d x =>
    simp only [pureB] at hq
    split at hq
    case h_2 => cases hq
    rename_i k hd
    unfold nConv at h
    simp only [hd] at h
    split at h
    · rename_i u1 k' yk n h1 h2 hx
      cases h2
      refine ⟨_, h, fun w1 => run_value ?_⟩
      unfold convert
      rw [hx]
      simp [run_underlying h1, run_underlying hd]
      cases u1 <;> simp [Conv.intToInt]
    · rename_i h2 _; cases h2
    · rename_i h2 _; cases h2
    · exact h.elim
  case h_15 => obtain ⟨v, hk, hr⟩ := nSlice_sound h; exact ⟨v, hk, fun w1 => run_value (hr w1)⟩
  case h_16 => obtain ⟨v, hk, hr⟩ := nFieldAddr_sound h; exact ⟨v, hk, fun w1 => run_value (hr w1)⟩
  case h_17 => obtain ⟨v, hk, hr⟩ := nField_sound h; exact ⟨v, hk, fun w1 => run_value (hr w1)⟩
  case h_18 => obtain ⟨v, hk, hr⟩ := nIndexAddr_sound h; exact ⟨v, hk, fun w1 => run_value (hr w1)⟩
  case h_19 => obtain ⟨v, hk, hr⟩ := nIndex_sound h; exact ⟨v, hk, fun w1 => run_value (hr w1)⟩
  case h_27 => obtain ⟨v, hk, hr⟩ := nExtract_sound h; exact ⟨v, hk, fun w1 => run_value (hr w1)⟩
  case h_28 c =>
    simp only [pureB, quietB] at hq
    split at hq
    case h_2 => cases hq
    rename_i b hc
    unfold nCall at h
    rw [hc] at h
    simp only at h
    have e : Array.map (ev σ) c.args = ⟨c.args.toList.map (ev σ)⟩ := by
      apply Array.toList_inj.1
      simp
    simp only [resolve, hc, invoke, Sem.run_bind, Sem.run_pure, Result.andThen_ok, e]
    unfold nBuiltin at h
    split at hq
    · rename_i ty l hts
      have hts' : c.argTypes[0]? = some ty := by rw [← Array.getElem?_toList, hts]; rfl
      simp only [hts] at h
      split at h
      · rename_i _ _ e A n cc hu hargs
        exact ⟨_, h, fun w1 => by simp only [builtin, hargs]; exact run_value (by simp [Builtin.len_, hts', run_underlying hu, goInt])⟩
      · rename_i _ _ s hu hargs
        exact ⟨_, h, fun w1 => by simp only [builtin, hargs]; exact run_value (by simp [Builtin.len_, hts', run_underlying hu, goInt])⟩
      · rename_i _ _ n e x hu hargs
        exact ⟨_, h, fun w1 => by simp only [builtin, hargs]; exact run_value (by simp [Builtin.len_, hts', run_underlying hu, goInt])⟩
      · rename_i k e hu
        rw [hu] at hq
        simp at hq
      · exact h.elim
    · simp only at h
      split at h
      case h_2 => exact h.elim
      rename_i k x r hargs
      split at h
      case h_2 => exact h.elim
      rename_i n hn
      exact ⟨_, h, fun w1 => by simp only [builtin, hargs]; exact run_value (by simp only [Builtin.min_]; exact minL_run k w1 r x n hn)⟩
    · simp only at h
      split at h
      case h_2 => exact h.elim
      rename_i k x r hargs
      split at h
      case h_2 => exact h.elim
      rename_i n hn
      exact ⟨_, h, fun w1 => by simp only [builtin, hargs]; exact run_value (by simp only [Builtin.max_]; exact maxL_run k w1 r x n hn)⟩
    · cases hq
  all_goals (simp [pureB, quietB] at hq)
theorem stepS_pure {P : Program} {σ : Fr} {o : Oper} {K : Value → World → Prop} {w : World} (hq : pureB P o.op = true) (h : stepS P σ o K w) {a : Act} (hl : Le σ a.tmps) :
    ∃ v u, K v w ∧ (isJunk v = true ∨ u = v) ∧ ∀ w1, (execOp a.eval o).run P w1 = .ok (.value u) w1 := by
  unfold stepS at h
  have mv : ∀ x : Operand, isJunk (ev σ x) = true ∨ a.eval x = ev σ x := fun x => by
    cases hx : isJunk (ev σ x) with
    | true => exact .inl rfl
    | false => exact .inr (ev_eq hl hx)
  split at h
  · rename_i x hop
    refine ⟨_, _, h, mv x, fun w1 => ?_⟩
    unfold execOp
    rw [hop]
    rfl
  · rename_i x hop
    refine ⟨_, _, h, mv x, fun w1 => ?_⟩
    unfold execOp
    rw [hop]
    rfl
  · rename_i hm1 hm2
    split at h
    case h_2 => exact h.elim
    rename_i hj
    obtain ⟨hs, hjj⟩ := jf_spec hj
    have e : execOp a.eval o = execOp (ev σ) o := execOp_congr o hs fun x hx => ev_eq hl (hjj x hx)
    obtain ⟨v, hk, hr⟩ := NOp_pure hq ⟨fun x e => hm1 x e, fun x e => hm2 x e⟩ h
    exact ⟨v, v, hk, .inr rfl, fun w1 => by rw [e]; exact hr w1⟩

/-! loads that yield the same in every world that meets S -/
def heldC (z : Value) (S : Array Obj → Prop) (a : Addr) (K : Value → Prop) : Prop :=
  match z with
  | .int k _ => ∃ n, (∀ w' : World, S w'.heap → w'.cell? a = some (.int k n)) ∧ K (.int k n)
  | .bool _ => ∃ b, (∀ w' : World, S w'.heap → w'.cell? a = some (.bool b)) ∧ K (.bool b)
  | .string _ => ∃ s, (∀ w' : World, S w'.heap → w'.cell? a = some (.string s)) ∧ K (.string s)
  | .slice _ _ _ => ∃ A n c, (∀ w' : World, S w'.heap → w'.cell? a = some (.slice A n c)) ∧ K (.slice A n c)
  | .pointer _ => ∃ p, (∀ w' : World, S w'.heap → w'.cell? a = some (.pointer p)) ∧ K (.pointer p)
  | .map _ => ∃ m, (∀ w' : World, S w'.heap → w'.cell? a = some (.map m)) ∧ K (.map m)
  | .nilFunc => ∃ g c, (∀ w' : World, S w'.heap → w'.cell? a = some (.func (.func g) #[] c)) ∧ K (.func (.func g) #[] c)
  | _ => ∃ v, (∀ w' : World, S w'.heap → w'.cell? a = some v) ∧ K v
theorem heldC_elim {z : Value} {S : Array Obj → Prop} {a : Addr} {K : Value → Prop} (h : heldC z S a K) : ∃ v, (∀ w' : World, S w'.heap → w'.cell? a = some v) ∧ K v := by
  unfold heldC at h
  split at h
  case h_4 => obtain ⟨A, n, c, h⟩ := h; exact ⟨_, h⟩
  case h_7 => obtain ⟨A, n, h⟩ := h; exact ⟨_, h⟩
  all_goals (obtain ⟨x, h⟩ := h; exact ⟨_, h⟩)
def heldL (S : Array Obj → Prop) (a : Addr) : List Value → Nat → (List Value → Prop) → Prop
  | [], _, K => K []
  | z :: zs, i, K => heldC z S (a.add i) fun v => heldL S a zs (i + 1) fun vs => K (v :: vs)
theorem heldL_elim {S : Array Obj → Prop} {a : Addr} : ∀ {zs : List Value} {i : Nat} {K : List Value → Prop}, heldL S a zs i K →
    ∃ vs, vs.length = zs.length ∧ (∀ j v, vs[j]? = some v → ∀ w' : World, S w'.heap → w'.cell? (a.add (i + j)) = some v) ∧ K vs
  | [], i, K, h => ⟨[], rfl, by simp, h⟩
  | z :: zs, i, K, h => by
    obtain ⟨v, h1, h2⟩ := heldC_elim h
    obtain ⟨vs, h3, h4, h5⟩ := heldL_elim h2
    refine ⟨v :: vs, by simp [h3], fun j u hj => ?_, h5⟩
    cases j with
    | zero => simp at hj; subst hj; exact h1
    | succ j =>
      have := h4 j u (by simpa using hj)
      rw [show i + (j + 1) = i + 1 + j from by omega]
      exact this
def nHeld (P : Program) (S : Array Obj → Prop) (t : TypeId) (x : Value) (K : Value → Prop) : Prop :=
  match x with
  | .pointer (some a) => match P.info? t, P.underlying t with
    | some i, some d => match i.zero with
      | some z => match aggD d with
        | true => match z with
          | .agg zs => match Nat.beq zs.toList.length i.size with
            | true => heldL S a zs.toList 0 fun vs => K (.agg ⟨vs⟩)
            | false => False
          | _ => False
        | false => heldC z S a K
      | none => False
    | _, _ => False
  | _ => False
theorem nHeld_val {P : Program} {S : Array Obj → Prop} {t : TypeId} {x : Value} {K : Value → Prop} (h : nHeld P S t x K) : ∃ v, K v ∧ ∀ w1 : World, S w1.heap → (Instr.loadAt t x).run P w1 = .ok v w1 := by
  unfold nHeld at h
  split at h
  case h_2 => exact h.elim
  rename_i a
  split at h
  case h_2 => exact h.elim
  rename_i i d hi hd
  split at h
  case h_2 => exact h.elim
  rename_i z hz
  cases hg : aggD d with
  | true =>
    simp only [hg] at h
    split at h
    case h_2 => exact h.elim
    rename_i zs
    split at h
    case h_2 => exact h.elim
    rename_i hb
    obtain ⟨vs, h1, h2, h3⟩ := heldL_elim h
    refine ⟨.agg ⟨vs⟩, h3, fun w1 he => ?_⟩
    have hs : i.size = vs.length := by rw [h1]; exact (Nat.eq_of_beq_eq_true hb).symm
    have key : (loadVar t a).run P w1 = .ok (.agg ⟨vs⟩) w1 := by
      unfold loadVar
      rw [Sem.run_bind, run_isAgg hd, Result.andThen_ok, hg, if_pos rfl, Sem.run_bind]
      have hsz : (sizeOf t).run P w1 = .ok i.size w1 := by simp [sizeOf, run_info hi]
      rw [hsz, Result.andThen_ok, hs, Sem.run_bind, run_loadCells_list w1 a vs (fun j v hj => by simpa using h2 j v hj w1 he)]
      rfl
    simpa [Instr.loadAt, Instr.sureAddr] using key
  | false =>
    simp only [hg] at h
    obtain ⟨v, h1, h2⟩ := heldC_elim h
    refine ⟨v, h2, fun w1 he => ?_⟩
    have key : (loadVar t a).run P w1 = .ok v w1 := by
      unfold loadVar
      rw [Sem.run_bind, run_isAgg hd, Result.andThen_ok, hg]
      simp [h1 w1 he]
    simpa [Instr.loadAt, Instr.sureAddr] using key

/-! the order: whoever is ready of those that only read is taken first -/
section
variable {P : Program} {ops : Array Oper} {Q : Exit → Act → World → Prop} {S : World → Prop} {D : List Nat}
def wpA (P : Program) (ops : Array Oper) (Q : Exit → Act → World → Prop) (S : World → Prop) (D : List Nat) : Nat → Array Bool → Act → World → Prop
  | 0, listed, a, w => Region.ready .any ops listed = [] ∧ Q .normal a w
  | fuel + 1, listed, a, w =>
    (Region.ready .any ops listed = [] → Q .normal a w) ∧
    ∀ i ∈ Region.ready .any ops listed, wpOp P ops Q i (fun a' w' => (i ∉ D → S w → S w') ∧ wpA P ops Q S D fuel (listed.setIfInBounds i true) a' w') a w
theorem wpAny_of_A : ∀ (fuel : Nat) (listed : Array Bool) (a : Act) (w : World), wpA P ops Q S D fuel listed a w → wpAny P .any ops Q fuel listed a w
  | 0, _, _, _, h => h
  | fuel + 1, _, _, _, h => ⟨h.1, fun i hi => wpOp_mono (fun a' w' h' => wpAny_of_A fuel _ a' w' h'.2) (h.2 i hi)⟩
theorem not_ready_of_edge {d i : Nat} {od : Oper} {listed : Array Bool} (hd : ops[d]? = some od) (he : ∃ e ∈ od.after, Region.binds .any e = true ∧ e.on = i) (hun : listed.getD i false = false) : d ∉ Region.ready .any ops listed := by
  intro h
  obtain ⟨_, o, ho, hall⟩ := mem_ready.1 h
  obtain rfl : o = od := Option.some.inj (ho.symm.trans hd)
  obtain ⟨e, he1, he2, rfl⟩ := he
  rw [hall e he1 he2] at hun
  cases hun
/-- What only reads is taken first; the operations of D wait for it. -/
theorem wpA_take {i : Nat} {oi : Oper} {v : Value} (hi : ops[i]? = some oi) (hsel : ∀ (j : Nat) (o : Oper) cs b, ops[j]? = some o → o.op ≠ .select cs b)
    (hQ : ∀ c a w, Q (.panic c) (a.put oi.dst v) w → Q (.panic c) a w) :
    ∀ (fuel : Nat) (listed : Array Bool) (a : Act) (w : World),
      (∀ j oj, ops[j]? = some oj → j ≠ i → listed.getD j true = false → (∀ e ∈ oj.after, Region.binds .any e = true → e.on ≠ i) → oi.apart ops oj = true) →
      (∀ d od, ops[d]? = some od → d ∈ D → ∃ e ∈ od.after, Region.binds .any e = true ∧ e.on = i) →
      i ∈ Region.ready .any ops listed → YieldsIf P ops S oi v a → S w →
      wpA P ops Q S D fuel (listed.setIfInBounds i true) (a.put oi.dst v) w → wpA P ops Q S D (fuel + 1) listed a w := by
  intro fuel
  induction fuel with
  | zero =>
    intro listed a w _ _ hr hy hS H
    refine ⟨fun h => (by rw [h] at hr; cases hr), fun j hj => ?_⟩
    by_cases hji : j = i
    · subst hji; exact hy.wpOp hi hS ⟨fun _ h => h, H⟩
    · have := ready_mono hj hji
      rw [H.1] at this
      cases this
  | succ fuel ih =>
    intro listed a w hfree hD hr hy hS H
    refine ⟨fun h => (by rw [h] at hr; cases hr), fun j hj => ?_⟩
    have hiun := (mem_ready.1 hr).1
    have hiun' : listed.getD i false = false := by
      rcases Nat.lt_or_ge i listed.size with h' | h'
      · simp [h'] at hiun ⊢; exact hiun
      · simp [Array.getElem?_eq_none h']
    by_cases hji : j = i
    · subst hji; exact hy.wpOp hi hS ⟨fun _ h => h, H⟩
    · have h1 := H.2 j (ready_mono hj hji)
      obtain ⟨hjun, oj, hoj, hall⟩ := mem_ready.1 hj
      have hnot : ∀ e ∈ oj.after, Region.binds .any e = true → e.on ≠ i := fun e he hb heq => by
        have h1 := hall e he hb
        rw [heq, hiun'] at h1
        cases h1
      have hjD : j ∉ D := fun hm => not_ready_of_edge hoj (hD j oj hoj hm) hiun' hj
      have h2 := wpOp_putIf hoj (hfree j oj hoj hji hjun hnot) (fun cs b => hsel i oi cs b hi) (fun cs b => hsel j oj cs b hoj) hQ hy h1
      have hfree' : ∀ k ok, ops[k]? = some ok → k ≠ i → (listed.setIfInBounds j true).getD k true = false →
          (∀ e ∈ ok.after, Region.binds .any e = true → e.on ≠ i) → oi.apart ops ok = true := fun k ok hk hki hun hno => by
        refine hfree k ok hk hki ?_ hno
        by_cases hjk : j = k
        · subst hjk; exact hjun
        · rw [getD_set_ne true hjk] at hun; exact hun
      refine wpOp_mono (fun a' w' h3 => ⟨h3.2.1, ih (listed.setIfInBounds j true) a' w' hfree' hD (ready_mono hr (Ne.symm hji)) h3.1 (h3.2.1 hjD hS) ?_⟩) h2
      rw [Array.setIfInBounds_comm _ _ hji]
      exact h3.2.2
/-- What yields in whatever world is taken first. -/
theorem wpA_pure {i : Nat} {oi : Oper} {v : Value} (hi : ops[i]? = some oi) (hsel : ∀ (j : Nat) (o : Oper) cs b, ops[j]? = some o → o.op ≠ .select cs b)
    (hQ : ∀ c a w, Q (.panic c) (a.put oi.dst v) w → Q (.panic c) a w) :
    ∀ (fuel : Nat) (listed : Array Bool) (a : Act) (w : World),
      (∀ j oj, ops[j]? = some oj → j ≠ i → listed.getD j true = false → (∀ e ∈ oj.after, Region.binds .any e = true → e.on ≠ i) → oi.apart ops oj = true) →
      i ∈ Region.ready .any ops listed → YieldsIf P ops (fun _ => True) oi v a →
      wpA P ops Q S D fuel (listed.setIfInBounds i true) (a.put oi.dst v) w → wpA P ops Q S D (fuel + 1) listed a w := by
  intro fuel
  induction fuel with
  | zero =>
    intro listed a w _ hr hy H
    refine ⟨fun h => (by rw [h] at hr; cases hr), fun j hj => ?_⟩
    by_cases hji : j = i
    · subst hji; exact hy.wpOp hi trivial ⟨fun _ h => h, H⟩
    · have := ready_mono hj hji
      rw [H.1] at this
      cases this
  | succ fuel ih =>
    intro listed a w hfree hr hy H
    refine ⟨fun h => (by rw [h] at hr; cases hr), fun j hj => ?_⟩
    have hiun := (mem_ready.1 hr).1
    have hiun' : listed.getD i false = false := by
      rcases Nat.lt_or_ge i listed.size with h' | h'
      · simp [h'] at hiun ⊢; exact hiun
      · simp [Array.getElem?_eq_none h']
    by_cases hji : j = i
    · subst hji; exact hy.wpOp hi trivial ⟨fun _ h => h, H⟩
    · have h1 := H.2 j (ready_mono hj hji)
      obtain ⟨hjun, oj, hoj, hall⟩ := mem_ready.1 hj
      have hnot : ∀ e ∈ oj.after, Region.binds .any e = true → e.on ≠ i := fun e he hb heq => by
        have h1 := hall e he hb
        rw [heq, hiun'] at h1
        cases h1
      have h2 := wpOp_putIf hoj (hfree j oj hoj hji hjun hnot) (fun cs b => hsel i oi cs b hi) (fun cs b => hsel j oj cs b hoj) hQ hy h1
      have hfree' : ∀ k ok, ops[k]? = some ok → k ≠ i → (listed.setIfInBounds j true).getD k true = false →
          (∀ e ∈ ok.after, Region.binds .any e = true → e.on ≠ i) → oi.apart ops ok = true := fun k ok hk hki hun hno => by
        refine hfree k ok hk hki ?_ hno
        by_cases hjk : j = k
        · subst hjk; exact hjun
        · rw [getD_set_ne true hjk] at hun; exact hun
      refine wpOp_mono (fun a' w' h3 => ⟨h3.2.1, ih (listed.setIfInBounds j true) a' w' hfree' (ready_mono hr (Ne.symm hji)) h3.1 ?_⟩) h2
      rw [Array.setIfInBounds_comm _ _ hji]
      exact h3.2.2
end

/-- The steps in an order: (i, 0): yields in every world; (i, 1): a load; (i, 2): alone, S behind it; (i, 3): alone, of D. -/
def shH (P : Program) (n : Nat) (ops : List Oper) (S : Array Obj → Prop) : List (Nat × Nat) → (Fr → World → Prop) → Fr → World → Prop
  | [], K, σ, w => K σ w
  | (i, m) :: l, K, σ, w => match ops[i]? with
    | some o => match dstOk n o.dst with
      | true => match wantedS ops σ o with
        | some true => match m with
          | 0 => stepS P σ o (fun v w' => splitK (isGuard ops i) v fun v => shH P n ops S l K (updo σ o.dst v) w') w
          | 1 => match o.op with
            | .load t x => nHeld P S t (ev σ x) fun v => splitK (isGuard ops i) v fun v => shH P n ops S l K (updo σ o.dst v) w
            | _ => False
          | 2 => stepS P σ o (fun v w' => S w'.heap ∧ splitK (isGuard ops i) v fun v => shH P n ops S l K (updo σ o.dst v) w') w
          | _ => stepS P σ o (fun v w' => splitK (isGuard ops i) v fun v => shH P n ops S l K (updo σ o.dst v) w') w
        | some false => shH P n ops S l K (updo σ o.dst undef) w
        | none => False
      | false => False
    | none => False
def edgeOn (ops : List Oper) (d i : Nat) : Bool := match ops[d]? with
  | some o => o.after.toList.any fun e => Region.binds .any e && Nat.beq e.on i
  | none => true
def okH (P : Program) (ops : Array Oper) (D : List Nat) : List (Nat × Nat) → Array Bool → Bool
  | [], listed => (Region.ready .any ops listed).isEmpty
  | (i, m) :: l, listed => (match m with
      | 0 => (match ops.toList[i]? with | some o => pureB P o.op | none => false) && (Region.ready .any ops listed).contains i && Region.free .any ops listed i
      | 1 => (Region.ready .any ops listed).contains i && Region.free .any ops listed i && D.all (fun d => edgeOn ops.toList d i) && D.all (fun d => !listed.getD d false)
      | 2 => Region.ready .any ops listed == [i] && !D.contains i
      | _ => Region.ready .any ops listed == [i] && D.contains i) && okH P ops D l (listed.setIfInBounds i true)

def QN (n : Nat) (Q : Exit → Fr → World → Prop) (e : Exit) (a : Act) (w1 : World) : Prop :=
  match e with
  | .normal => Lift n Q .normal a w1
  | _ => False
theorem okH_listed {ops : Array Oper} {listed : Array Bool} {i : Nat} (h : i ∈ Region.ready .any ops listed) : i < listed.size := by
  have := (mem_ready.1 h).1
  rcases Nat.lt_or_ge i listed.size with h' | h'
  · exact h'
  · simp [Array.getElem?_eq_none h'] at this
theorem all_set_not {D : List Nat} {listed : Array Bool} {i : Nat} (hi : i ∉ D) (h : (D.all fun d => !(listed.setIfInBounds i true).getD d false) = true) : (D.all fun d => !listed.getD d false) = true := by
  rw [List.all_eq_true] at h ⊢
  intro d hd
  have := h d hd
  rwa [getD_set_ne false (fun e => hi (by rw [e]; exact hd))] at this
theorem all_set_in {D : List Nat} {listed : Array Bool} {i : Nat} (hi : i ∈ D) (hlt : i < listed.size) (h : (D.all fun d => !(listed.setIfInBounds i true).getD d false) = true) : False := by
  rw [List.all_eq_true] at h
  have := h i hi
  simp [hlt] at this
theorem shH_sound {P : Program} {n : Nat} {ops : Array Oper} {S : Array Obj → Prop} {D : List Nat} {Q : Exit → Fr → World → Prop} (hs : Region.noSelect ops = true) : ∀ (l : List (Nat × Nat)) (listed : Array Bool) (σ : Fr) (w : World),
    okH P ops D l listed = true → shH P n ops.toList S l (fun σ w => Q .normal σ w) σ w → ((D.all fun d => !listed.getD d false) = true → S w.heap) →
    ∀ (a : Act) (w1 : World), a.defers = [] → a.tmps.size = n → Le σ a.tmps → Eqv w1 w → wpA P ops (QN n Q) (fun w => S w.heap) D l.length listed a w1
  | [], listed, σ, w, ho, h, hS, a, w1, h1, h2, h3, h4 => ⟨by simpa [okH] using ho, h1, h2, σ, w, h3, h4, h⟩
  | (i, m) :: l, listed, σ, w, ho, h, hS, a, w1, h1, h2, h3, h4 => by
    unfold shH at h
    split at h
    case h_2 => exact h.elim
    rename_i o hoi
    have hi : ops[i]? = some o := by simpa using hoi
    split at h
    case h_2 => exact h.elim
    rename_i hd
    have hsel := Region.noSelect_spec hs
    have hQ : ∀ v c (a : Act) w, QN n Q (.panic c) (a.put o.dst v) w → QN n Q (.panic c) a w := fun v c a w h => h
    simp only [okH, Bool.and_eq_true] at ho
    obtain ⟨ho1, ho2⟩ := ho
    simp only [List.length_cons]
    -- what follows, from what is put
    have go : ∀ (v u : Value) (w' : World), shH P n ops.toList S l (fun σ w => Q .normal σ w) (updo σ o.dst v) w' → (isJunk v = true ∨ u = v) →
        ((D.all fun d => !(listed.setIfInBounds i true).getD d false) = true → S w'.heap) → ∀ w1', Eqv w1' w' →
        wpA P ops (QN n Q) (fun w => S w.heap) D l.length (listed.setIfInBounds i true) (a.put o.dst u) w1' := by
      intro v u w' hk hu hS' w1' he
      refine shH_sound hs l _ (updo σ o.dst v) w' ho2 hk hS' (a.put o.dst u) w1' (by rw [defers_put]; exact h1) (by rw [size_put]; exact h2) ?_ he
      rcases hu with hu | rfl
      · cases hdd : o.dst with
        | none => exact h3
        | some d => exact h3.put_junk d h2 (by rw [← hdd]; exact hd) u v hu
      · exact h3.put h2 hd _
    have one : ∀ (b : Bool), Region.ready .any ops listed = [i] → (wantedS ops.toList σ o = some b) →
        (b = true → o.wp P a w1 (fun a' w' => (i ∉ D → S w1.heap → S w'.heap) ∧ wpA P ops (QN n Q) (fun w => S w.heap) D l.length (listed.setIfInBounds i true) a' w') (QN n Q)) →
        (b = false → wpA P ops (QN n Q) (fun w => S w.heap) D l.length (listed.setIfInBounds i true) (a.put o.dst undef) w1) →
        wpA P ops (QN n Q) (fun w => S w.heap) D (l.length + 1) listed a w1 := by
      intro b hr hw ht hf
      refine ⟨fun h0 => (by rw [hr] at h0; cases h0), fun j hj => ?_⟩
      rw [hr] at hj
      obtain rfl : j = i := by simpa using hj
      unfold wpOp
      simp only [hi]
      have := wantedS_spec hw h3
      cases b with
      | true => rw [if_pos this]; exact .inl (ht rfl)
      | false => rw [if_neg (by rw [this]; simp)]; exact ⟨fun _ h => h, hf rfl⟩
    split at h
    case h_3 => exact h.elim
    case h_1 hw =>
      split at h
      · -- yields in every world
        simp only [Bool.and_eq_true] at ho1
        obtain ⟨⟨hp, hr⟩, hf⟩ := ho1
        rw [hoi] at hp
        obtain ⟨v, u, hk, hu, hrun⟩ := stepS_pure hp h h3
        have hk' := splitK_elim hk
        have hr' : i ∈ Region.ready .any ops listed := by simpa using hr
        refine wpA_pure hi hsel (hQ u) l.length listed a w1 (Region.free_spec hi hf) hr' (.inl ⟨wantedS_spec hw h3, fun w _ => hrun w⟩) ?_
        refine go v u w hk' hu (fun h' => ?_) w1 h4
        by_cases hin : i ∈ D
        · exact (all_set_in hin (okH_listed hr') h').elim
        · exact hS (all_set_not hin h')
      · -- a load
        simp only [Bool.and_eq_true] at ho1
        obtain ⟨⟨⟨hr, hf⟩, he⟩, hn⟩ := ho1
        split at h
        case h_2 => exact h.elim
        rename_i t x hop
        obtain ⟨v, hk, hrun⟩ := nHeld_val h
        have hk' := splitK_elim hk
        have hr' : i ∈ Region.ready .any ops listed := by simpa using hr
        have hx : isJunk (ev σ x) = false := by
          unfold nHeld at h
          split at h
          · rename_i p hp; rw [hp]; rfl
          · exact h.elim
        have hev : a.eval x = ev σ x := ev_eq h3 hx
        have hrun' : ∀ w : World, S w.heap → (execOp a.eval o).run P w = .ok (.value v) w := fun w hw' => by
          unfold execOp
          rw [hop]
          simp only [hev]
          exact run_value (hrun w hw')
        refine wpA_take hi hsel (hQ v) l.length listed a w1 (Region.free_spec hi hf) (fun d od hod hdD => ?_) hr' (.inl ⟨wantedS_spec hw h3, hrun'⟩) (by
          have := hS hn
          show S w1.heap
          rw [h4.heap]
          exact this) ?_
        · have := List.all_eq_true.1 he d hdD
          unfold edgeOn at this
          have hod' : ops.toList[d]? = some od := by simpa using hod
          rw [hod'] at this
          simp only [List.any_eq_true, Bool.and_eq_true] at this
          obtain ⟨e, he1, he2, he3⟩ := this
          exact ⟨e, by simpa using he1, he2, Nat.eq_of_beq_eq_true he3⟩
        · exact go v v w hk' (.inr rfl) (fun _ => hS hn) w1 h4
      · -- alone
        simp only [Bool.and_eq_true, beq_iff_eq, Bool.not_eq_true'] at ho1
        obtain ⟨hr, hnd⟩ := ho1
        have hnd' : i ∉ D := by simpa using hnd
        refine one true hr hw (fun _ => ?_) (fun e => by cases e)
        refine stepS_sound h h3 h4 fun v u w1' w' he hk hu => ?_
        obtain ⟨hSw, hk⟩ := hk
        exact ⟨fun _ _ => by rw [he.heap]; exact hSw, go v u w' (splitK_elim hk) hu (fun _ => hSw) w1' he⟩
      · -- alone, the last
        rename_i h01 h02 h03
        have ho1' : Region.ready .any ops listed = [i] ∧ i ∈ D := by
          split at ho1
          · exact absurd rfl h01
          · exact absurd rfl h02
          · exact absurd rfl h03
          · simpa using ho1
        obtain ⟨hr, hnd⟩ := ho1'
        have hr' : i ∈ Region.ready .any ops listed := by rw [hr]; simp
        refine one true hr hw (fun _ => ?_) (fun e => by cases e)
        refine stepS_sound h h3 h4 fun v u w1' w' he hk hu => ?_
        exact ⟨fun hn => absurd hnd hn, go v u w' (splitK_elim hk) hu (fun h' => (all_set_in hnd (okH_listed hr') h').elim) w1' he⟩
    case h_2 hw =>
      -- not carried out
      have hyu : ∀ T : World → Prop, YieldsIf P ops T o undef a := fun T => .inr ⟨wantedS_spec hw h3, rfl⟩
      have skip : i ∈ Region.ready .any ops listed → wpA P ops (QN n Q) (fun w => S w.heap) D l.length (listed.setIfInBounds i true) (a.put o.dst undef) w1 := fun hr' =>
        go undef undef w h (.inr rfl) (fun h' => by
          by_cases hin : i ∈ D
          · exact (all_set_in hin (okH_listed hr') h').elim
          · exact hS (all_set_not hin h')) w1 h4
      split at ho1
      · simp only [Bool.and_eq_true] at ho1
        have hr' : i ∈ Region.ready .any ops listed := by simpa using ho1.1.2
        exact wpA_pure hi hsel (hQ undef) l.length listed a w1 (Region.free_spec hi ho1.2) hr' (hyu _) (skip hr')
      · simp only [Bool.and_eq_true] at ho1
        have hr' : i ∈ Region.ready .any ops listed := by simpa using ho1.1.1.1
        exact wpA_pure hi hsel (hQ undef) l.length listed a w1 (Region.free_spec hi ho1.1.1.2) hr' (hyu _) (skip hr')
      · simp only [Bool.and_eq_true, beq_iff_eq] at ho1
        exact one false ho1.1 hw (fun e => by cases e) (fun _ => skip (by rw [ho1.1]; simp))
      · simp only [Bool.and_eq_true, beq_iff_eq] at ho1
        exact one false ho1.1 hw (fun e => by cases e) (fun _ => skip (by rw [ho1.1]; simp))
def heldOk (P : Program) (ops : Array Oper) (D : List Nat) (l : List (Nat × Nat)) : Bool :=
  P.follows .mixedOrders && Region.noSelect ops && okH P ops D l (Array.replicate ops.size false) && Nat.beq l.length ops.size
theorem J_held (D : List Nat) (l : List (Nat × Nat)) {P : Program} {n : Nat} {id : Nat} {ops : Array Oper} {Q : Exit → Fr → World → Prop} {σ : Fr} {w : World} (hd : heldOk P ops D l = true)
    (h : ∃ S : Array Obj → Prop, S w.heap ∧ shH P n ops.toList S l (fun σ w => Q .normal σ w) σ w) : J P n (.region id ops true) Q σ w := by
  simp only [heldOk, Bool.and_eq_true] at hd
  obtain ⟨⟨⟨h1, h2⟩, h3⟩, h4⟩ := hd
  obtain ⟨S, hS, h⟩ := h
  intro a w1 k1 k2 k3 k4
  have hl : l.length = ops.size := Nat.eq_of_beq_eq_true h4
  have hw : Eqv { w1 with drawn := w1.drawn + 1 } w := ⟨k4.heap, k4.tape, k4.os, k4.output⟩
  have key := shH_sound (D := D) (Q := Q) h2 l (Array.replicate ops.size false) σ w h3 h (fun _ => hS) a _ k1 k2 k3 hw
  rw [hl] at key
  have r := wp_region_any (id := id) (Q := QN n Q) h1 (wpAny_of_A _ _ _ _ key)
  exact wp_mono r fun e a' w' hq => by
    cases e with
    | normal => exact hq
    | _ => exact hq.elim

/-! ### 11. Memory: blocks, what is kept, slices that are read, rows of the call's own -/
theorem wrap64_in {x : Int} (h1 : -9223372036854775808 ≤ x) (h2 : x ≤ 9223372036854775807) : IntKind.wrap .i64 x = x := by rw [IntKind.wrap_i64]; omega
theorem wrapu64_in {x : Int} (h1 : 0 ≤ x) (h2 : x ≤ 18446744073709551615) : IntKind.wrap .u64 x = x := by simp only [IntKind.wrap, IntKind.bits, IntKind.signed]; simp; omega
theorem wrapu8_eq (x : Int) : IntKind.wrap .u8 x = x % 256 := by simp [IntKind.wrap, IntKind.bits, IntKind.signed]
theorem wrapu64_eq (x : Int) : IntKind.wrap .u64 x = x % 18446744073709551616 := by simp [IntKind.wrap, IntKind.bits, IntKind.signed]
theorem add_at (g o j : Nat) : (⟨g, o, none⟩ : Addr).add j = ⟨g, o + j, none⟩ := by unfold Addr.add; split <;> simp_all
theorem add_block (a : Addr) (j : Nat) : (a.add j).block = a.block := by unfold Addr.add; split <;> rfl

/-- Block g: its cells, none of them frozen. -/
def Blk (w : World) (g : Nat) (e : TypeId) (cs : List Value) : Prop := w.heap[g]? = some (.cells ⟨cs⟩ e (0, 0))
theorem Blk.lt {w : World} {g : Nat} {e : TypeId} {cs : List Value} (h : Blk w g e cs) : g < w.heap.size := (Array.getElem?_eq_some_iff.1 h).1
theorem Blk.cell {w : World} {g : Nat} {e : TypeId} {cs : List Value} (h : Blk w g e cs) (j : Nat) : w.cell? ⟨g, j, none⟩ = cs[j]? := by
  unfold Blk at h
  simp [World.cell?, h]
theorem Blk.cell' {w : World} {g : Nat} {e : TypeId} {cs : List Value} (h : Blk w g e cs) {j : Nat} {v : Value} (hv : cs[j]? = some v) : w.cell? ⟨g, j, none⟩ = some v := (h.cell j).trans hv
theorem Blk.canStore {w : World} {g : Nat} {e : TypeId} {cs : List Value} (h : Blk w g e cs) {j : Nat} (hj : j < cs.length) : canStore w ⟨g, j, none⟩ := by
  refine ⟨⟨cs[j], by rw [h.cell]; exact List.getElem?_eq_getElem hj⟩, ?_⟩
  unfold Blk at h
  simp [World.frozen?, h]
theorem Blk.set {w : World} {g : Nat} {e : TypeId} {cs : List Value} (h : Blk w g e cs) (j : Nat) (v : Value) : Blk (w.setCell ⟨g, j, none⟩ v) g e (cs.set j v) := by
  unfold Blk at h ⊢
  simp [World.setCell, Array.getElem?_modify, h]
theorem Blk.new (w : World) (e : TypeId) (cs : List Value) : Blk (w.alloc (.cells ⟨cs⟩ e)) w.heap.size e cs := by
  unfold Blk
  exact heap_alloc_new w _
theorem Blk.eqv {w w' : World} {g : Nat} {e : TypeId} {cs : List Value} (h : Blk w g e cs) (k : Eqv w' w) : Blk w' g e cs := by unfold Blk at h ⊢; rw [k.heap]; exact h

/-- All that was there is as it was, the blocks of S apart. -/
structure Kp (S : Nat → Prop) (w w' : World) : Prop where
  os : w'.os = w.os
  tape : w'.tape = w.tape
  output : w'.output = w.output
  size : w.heap.size ≤ w'.heap.size
  block : ∀ i, i < w.heap.size → ¬ S i → w'.heap[i]? = w.heap[i]?
theorem Kp.refl (S : Nat → Prop) (w : World) : Kp S w w := ⟨rfl, rfl, rfl, Nat.le_refl _, fun _ _ _ => rfl⟩
theorem Kp.trans {S S' T : Nat → Prop} {a b c : World} (h : Kp S a b) (k : Kp S' b c) (hs : ∀ i, i < a.heap.size → S i → T i) (hs' : ∀ i, i < a.heap.size → S' i → T i) : Kp T a c :=
  ⟨k.os.trans h.os, k.tape.trans h.tape, k.output.trans h.output, Nat.le_trans h.size k.size, fun i hi hn =>
    (k.block i (Nat.lt_of_lt_of_le hi h.size) (fun e => hn (hs' i hi e))).trans (h.block i hi (fun e => hn (hs i hi e)))⟩
theorem Kp.mono {S T : Nat → Prop} {a b : World} (h : Kp S a b) (hs : ∀ i, i < a.heap.size → S i → T i) : Kp T a b := h.trans (Kp.refl T b) hs (fun _ _ h => h)
theorem Kp.alloc (S : Nat → Prop) (w : World) (o : Obj) : Kp S w (w.alloc o) := ⟨rfl, rfl, rfl, by simp, fun i hi _ => Below.heap_alloc w o i hi⟩
theorem Kp.setCell {S : Nat → Prop} (w : World) (a : Addr) (v : Value) (h : S a.block) : Kp S w (w.setCell a v) :=
  ⟨rfl, rfl, rfl, by simp, fun i _ hn => Below.heap_setCell w a v i (fun e => hn (by rw [e]; exact h))⟩
theorem Kp.eqv {S : Nat → Prop} {a b c : World} (h : Kp S a b) (k : Eqv c b) : Kp S a c :=
  ⟨k.os.trans h.os, k.tape.trans h.tape, k.output.trans h.output, by rw [k.heap]; exact h.size, fun i hi hn => by rw [k.heap]; exact h.block i hi hn⟩
theorem Kp.eqv_left {S : Nat → Prop} {a b c : World} (h : Kp S a b) (k : Eqv a c) : Kp S c b :=
  ⟨h.os.trans k.os, h.tape.trans k.tape, h.output.trans k.output, by rw [← k.heap]; exact h.size, fun i hi hn => by rw [← k.heap] at hi ⊢; exact h.block i hi hn⟩
theorem Kp.below {S : Nat → Prop} {B : Nat} {w w' : World} (h : Kp S w w') (hB : B ≤ w.heap.size) (hs : ∀ i, i < B → ¬ S i) : Below B w w' :=
  ⟨h.os, h.tape, h.output, h.size, fun i hi => h.block i (Nat.lt_of_lt_of_le hi hB) (hs i hi)⟩
theorem Kp.of_below {w w' : World} (h : Below w.heap.size w w') : Kp (fun _ => False) w w' := ⟨h.os, h.tape, h.output, h.size, fun i hi _ => h.block i hi⟩
theorem Kp.of_below' {B : Nat} {w w' : World} (h : Below B w w') : Kp (fun i => B ≤ i) w w' := ⟨h.os, h.tape, h.output, h.size, fun i hi hn => h.block i (by omega)⟩
theorem Kp.of_grown {w w' : World} {row : Option Nat} (h : w.grownBy w' row) : Kp (fun i => row = some i) w w' := ⟨h.os, h.tape, h.output, h.size, fun i hi hn => h.block i hi (fun e => hn e.symm)⟩
theorem Kp.below_trans {S : Nat → Prop} {B : Nat} {w0 w w' : World} (h : Below B w0 w) (k : Kp S w w') (hB : B ≤ w.heap.size) (hs : ∀ i, i < B → ¬ S i) : Below B w0 w' := h.trans (k.below hB hs)
theorem Blk.kp {S : Nat → Prop} {w w' : World} {g : Nat} {e : TypeId} {cs : List Value} (h : Blk w g e cs) (k : Kp S w w') (hn : ¬ S g) : Blk w' g e cs := by
  have := k.block g h.lt hn
  unfold Blk at h ⊢
  rw [this]
  exact h

/-- The cells of a slice that is read. -/
def Cs (w : World) (A : Option Addr) (cs : List Value) : Prop := ∀ j v, cs[j]? = some v → ∃ a, A = some a ∧ w.cell? (a.add j) = some v
theorem Cs.nil (w : World) (A : Option Addr) : Cs w A [] := fun j v h => by simp at h
theorem Cs.at {w : World} {A : Option Addr} {cs : List Value} (h : Cs w A cs) {j : Nat} {v : Value} (hv : cs[j]? = some v) : ∃ a, A = some a ∧ w.cell? (a.add j) = some v := h j v hv
theorem Cs.kp {S : Nat → Prop} {w w' : World} {A : Option Addr} {cs : List Value} (h : Cs w A cs) (k : Kp S w w') (hn : ∀ a, A = some a → ¬ S a.block) : Cs w' A cs := fun j v hj => by
  obtain ⟨a, e, hc⟩ := h j v hj
  refine ⟨a, e, ?_⟩
  have hb := World.block_lt_of_cell? w _ hc
  rw [add_block] at hb
  rw [← hc]
  exact World.cell?_of_block (by rw [add_block]; exact k.block a.block hb (hn a e))
theorem Cs.below {w w' : World} {A : Option Addr} {cs : List Value} (h : Cs w A cs) (k : Below w.heap.size w w') : Cs w' A cs := h.kp (Kp.of_below k) (fun _ _ => id)
theorem Cs.eqv {w w' : World} {A : Option Addr} {cs : List Value} (h : Cs w A cs) (k : Eqv w' w) : Cs w' A cs := fun j v hj => by
  obtain ⟨a, e, hc⟩ := h j v hj
  exact ⟨a, e, by rw [k.cell?]; exact hc⟩
theorem Cs.of_blk {w : World} {g : Nat} {e : TypeId} {cs : List Value} (h : Blk w g e cs) (o n : Nat) : Cs w (some ⟨g, o, none⟩) ((cs.drop o).take n) := fun j v hj => by
  refine ⟨_, rfl, ?_⟩
  rw [add_at, h.cell]
  rw [List.getElem?_take] at hj
  split at hj
  · rw [List.getElem?_drop] at hj; exact hj
  · cases hj
theorem Cs.of_blk0 {w : World} {g : Nat} {e : TypeId} {cs : List Value} (h : Blk w g e cs) : Cs w (some ⟨g, 0, none⟩) cs := by
  have := Cs.of_blk h 0 cs.length
  simpa using this
theorem Cs.take {w : World} {A : Option Addr} {cs : List Value} (h : Cs w A cs) (n : Nat) : Cs w A (cs.take n) := fun j v hj => by
  rw [List.getElem?_take] at hj
  split at hj
  · exact h j v hj
  · cases hj
theorem add_add (a : Addr) (i j : Nat) : (a.add i).add j = a.add (i + j) := by
  unfold Addr.add
  by_cases hi : i = 0 <;> by_cases hj : j = 0 <;> simp_all <;> omega
theorem Cs.drop {w : World} {A : Option Addr} {cs : List Value} (h : Cs w A cs) (n : Nat) : Cs w (A.map (·.add n)) (cs.drop n) := fun j v hj => by
  rw [List.getElem?_drop] at hj
  obtain ⟨a, rfl, hc⟩ := h _ v hj
  exact ⟨_, rfl, by rw [add_add]; exact hc⟩
theorem Cs.ofOwn {w : World} {base : Nat} {e : TypeId} {size : Nat} {A : Option Addr} {n c m : Nat} {xs : List Value} (h : w.ownsRow base e size (.slice A n c) m xs) : Cs w A xs := fun j v hj => by
  cases A with
  | none =>
    have := h.2
    rcases this with ⟨_, h0⟩ | ⟨g, cap, cur, e1, _⟩
    · have hl := h.1
      rw [h0] at hl
      have : xs = [] := by simpa using hl
      subst this
      simp at hj
    · cases e1
  | some a =>
    rcases h.2 with ⟨e1, _⟩ | ⟨g, cap, cur, e1, _⟩
    · cases e1
    · have : a = ⟨g, 0, none⟩ := by cases e1; rfl
      subst this
      exact ⟨_, rfl, h.cells rfl j v hj⟩
/-- A row of the call's own: the shape of its slice. -/
theorem own_form {w : World} {base : Nat} {e : TypeId} {size n : Nat} {v : Value} {xs : List Value} (h : w.ownsRow base e size v n xs) : ∃ A c, v = .slice A n c ∧ n ≤ c ∧ (A = none ∧ n = 0 ∧ c = 0 ∧ xs = [] ∨ ∃ g cur, A = some ⟨g, 0, none⟩ ∧ base ≤ g ∧ Blk w g e cur ∧ cur.length = c * size ∧ cur.take (n * size) = xs ∧ c ≤ maxLen) := by
  rcases h.2 with ⟨rfl, rfl⟩ | ⟨g, cap, cur, rfl, hb, hh, h1, h2, h3, h4⟩
  · have hl := h.1
    refine ⟨none, 0, rfl, Nat.le_refl _, .inl ⟨rfl, rfl, rfl, ?_⟩⟩
    simpa using hl
  · exact ⟨_, _, rfl, h1, .inr ⟨g, cur.toList, rfl, hb, hh, by simpa using h3, h4, h2⟩⟩
theorem own_of_blk {w : World} {g base : Nat} {e : TypeId} {cs : List Value} {size n c : Nat} (h : Blk w g e cs) (hb : base ≤ g) (hc : cs.length = c * size) (hn : n ≤ c) (hm : c ≤ maxLen) : w.ownsRow base e size (.slice (some ⟨g, 0, none⟩) n c) n (cs.take (n * size)) := by
  refine ⟨?_, .inr ⟨g, c, ⟨cs⟩, rfl, hb, h, hn, hm, by simpa using hc, by simp⟩⟩
  rw [List.length_take, hc]
  exact Nat.min_eq_left (Nat.mul_le_mul_right _ hn)
theorem own_eqv {w w' : World} {base : Nat} {e : TypeId} {size n : Nat} {v : Value} {xs : List Value} (h : w.ownsRow base e size v n xs) (k : Eqv w' w) : w'.ownsRow base e size v n xs := by
  refine ⟨h.1, ?_⟩
  rw [k.heap]
  exact h.2
theorem own_kp {S : Nat → Prop} {w w' : World} {base : Nat} {e : TypeId} {size n : Nat} {v : Value} {xs : List Value} (h : w.ownsRow base e size v n xs) (k : Kp S w w') (hn : ∀ g, v.ownBlock = some g → ¬ S g) : w'.ownsRow base e size v n xs := by
  refine ⟨h.1, ?_⟩
  rcases h.2 with h2 | ⟨g, cap, cur, rfl, hb, hh, rest⟩
  · exact .inl h2
  · refine .inr ⟨g, cap, cur, rfl, hb, ?_, rest⟩
    rw [k.block g (Array.getElem?_eq_some_iff.1 hh).1 (hn g rfl)]
    exact hh

/-! append, copy -/
theorem append_own {P : Program} (base : Nat) {t ty e : TypeId} {i : TypeInfo} {z : Value} {size bytes : Nat} (ht : P.underlying t = some (.slice e)) (hi : P.info? e = some i) (hz : i.zero = some z)
    (hsize : i.size = size) (hby : i.bytes = bytes) (hzs : z.cells.size = size) (hsz : 0 < size)
    {w : World} {v : Value} {n : Nat} {xs : List Value} (hown : w.ownsRow base e size v n xs)
    {B : Option Addr} {m c : Nat} {news : List Value} (hl : news.length = m * size) (hnews : Cs w B news) (h1 : ∀ u ∈ news, u.oneCell' = true)
    (h63 : n + m ≤ maxLen) (hbytes : (n + m) * bytes ≤ 140737488355328) (hbase : base ≤ w.heap.size) {K : Value → World → Prop}
    (h : ∀ A' c' w', w'.ownsRow base e size (.slice A' (n + m) c') (n + m) (xs ++ news) → w.grownBy w' v.ownBlock → K (.slice A' (n + m) c') w') :
    SemJ P (Builtin.append_ #[t, t] ty #[v, .slice B m c]) K w := by
  intro w1 he
  have hown1 := own_eqv hown he
  cases B with
  | some a =>
    obtain ⟨v', w', hr, h2, h3, h4⟩ := run_append_own (P := P) w1 base t ty e i z size bytes ht hi hz hsize hby hzs hsz v n xs hown1 a m c news hl (fun j u hj => by
      obtain ⟨a', e1, hc⟩ := hnews j u hj
      cases e1
      rw [he.cell?]
      exact hc) h1 h63 hbytes (by rw [he.heap]; exact hbase)
    obtain ⟨A', c', rfl, _⟩ := own_form h2
    exact ⟨_, w', w', hr, Eqv.refl _, h A' c' w' h2 ⟨h3.os.trans he.os, h3.tape.trans he.tape, h3.output.trans he.output, by rw [← he.heap]; exact h3.size, fun k hk hne => by rw [← he.heap] at hk ⊢; exact h3.block k hk hne⟩⟩
  | none =>
    have hnil : news = [] := by
      cases news with
      | nil => rfl
      | cons u us => obtain ⟨a, e1, _⟩ := hnews 0 u rfl; cases e1
    subst hnil
    have hm : m = 0 := by
      have h0 : m * size = 0 := by simpa using hl.symm
      rcases Nat.mul_eq_zero.1 h0 with h | h
      · exact h
      · omega
    subst hm
    obtain ⟨A, c0, rfl, hnc, hf⟩ := own_form hown
    refine ⟨.slice A n c0, w1, w1, ?_, Eqv.refl _, h A c0 w1 (by simpa using hown1) ⟨he.os, he.tape, he.output, by rw [he.heap]; exact Nat.le_refl _, fun k _ _ => by rw [he.heap]⟩⟩
    have hr : n + 0 ≤ c0 := hnc
    cases A <;> simp [Builtin.append_, run_underlying ht, sizeOf, typeInfo, hi, Builtin.lenOf, hnc, Builtin.firstCells, storeCells]
theorem copy_blk {P : Program} {dT sT ty e : TypeId} (hu : P.underlying dT = some (.slice e)) (hs : (P.info? e).map (·.size) = some 1)
    {w : World} {g o dLen dCap : Nat} {A : Option Addr} {sLen sCap : Nat} {t : TypeId} {cur cs : List Value} (hg : Blk w g t cur) (hn : cs.length = Nat.min sLen dLen) (hsrc : Cs w A cs) (hfit : o + cs.length ≤ cur.length) (h1 : ∀ u ∈ cs, u.oneCell' = true) {K : Value → World → Prop}
    (h : ∀ w', Blk w' g t (cur.take o ++ cs ++ cur.drop (o + cs.length)) → Kp (· = g) w w' → K (.int .i64 (cs.length : Int)) w') :
    SemJ P (Builtin.copy_ #[dT, sT] ty #[.slice (some ⟨g, o, none⟩) dLen dCap, .slice A sLen sCap]) K w := by
  intro w1 he
  by_cases h0 : cs = []
  · subst h0
    have hrun := run_copy_none (P := P) w1 dT sT ty e (some ⟨g, o, none⟩) A dLen dCap sLen sCap hu hs (by simpa using hn.symm)
    refine ⟨_, w1, w1, hrun, Eqv.refl _, ?_⟩
    have := h w1 (by simpa using hg.eqv he) ((Kp.refl _ w).eqv he)
    simpa [goInt] using this
  · have hpos : 0 < cs.length := by
      cases cs with
      | nil => exact absurd rfl h0
      | cons => simp
    obtain ⟨a, rfl, _⟩ := hsrc 0 cs[0] (by simp [hpos])
    have hrun := run_copy_row (P := P) w1 dT sT ty e g o dLen dCap a sLen sCap ⟨cur⟩ t cs hu hs (hg.eqv he) hn (fun j u hj => by
      obtain ⟨a', e1, hc⟩ := hsrc j u hj
      cases e1
      rw [he.cell?]
      exact hc) (by simpa using hfit) h1
    refine ⟨_, _, _, hrun, Eqv.refl _, ?_⟩
    have hk : Kp (· = g) w1 (w1.setRow g (cur.take o ++ cs ++ cur.drop (o + cs.length)).toArray) :=
      ⟨rfl, rfl, rfl, by simp [World.setRow], fun i _ hne => by simp [World.setRow, Array.getElem?_modify, Ne.symm hne]⟩
    have := h (w1.setRow g (cur.take o ++ cs ++ cur.drop (o + cs.length)).toArray) (by
      have hg1 := hg.eqv he
      unfold Blk at hg1 ⊢
      simp [World.setRow, Array.getElem?_modify, hg1]) (hk.eqv_left he)
    simpa [goInt] using this

/-! ### 12. Structs in memory: rows of several cells -/
theorem condP_nt {p q : Prop} (h : q) : condP (!true) p q := h
theorem condP_t {p q : Prop} (h : p) : condP true p q := h
theorem condP_f {p q : Prop} (h : q) : condP false p q := h
/-- Some cells side by side are written, one behind the other. -/
def stores (a : Addr) : Nat → List Value → World → (World → Prop) → Prop
  | _, [], w, Q => Q w
  | i, v :: vs, w, Q => canStore w (a.add i) ∧ wlet (w.setCell (a.add i) v) fun w1 => stores a (i + 1) vs w1 Q
def sets : List Value → Nat → List Value → List Value
  | cs, _, [] => cs
  | cs, o, v :: vs => sets (cs.set o v) (o + 1) vs
theorem stores_blk {Q : World → Prop} {g o : Nat} {e : TypeId} : ∀ {vs : List Value} {w : World} {i : Nat} {cs : List Value}, Blk w g e cs → o + i + vs.length ≤ cs.length →
    (∀ w', Blk w' g e (sets cs (o + i) vs) → Kp (· = g) w w' → w'.heap.size = w.heap.size → Q w') → stores ⟨g, o, none⟩ i vs w Q
  | [], w, i, cs, hB, hl, h => h w hB (Kp.refl _ w) rfl
  | v :: vs, w, i, cs, hB, hl, h => by
    simp only [List.length_cons] at hl
    refine ⟨by rw [add_at]; exact hB.canStore (by omega), ?_⟩
    show stores _ (i + 1) vs _ Q
    refine stores_blk (cs := cs.set (o + i) v) (by rw [add_at]; exact hB.set _ _) (by simp; omega) fun w' h1 h2 h3 => ?_
    refine h w' h1 ((Kp.setCell w _ v (by rw [add_block])).trans h2 (fun _ _ h => h) (fun _ _ h => h)) (by rw [h3]; simp)
theorem sets_same : ∀ {vs : List Value} {cs : List Value} {i : Nat}, i + vs.length = cs.length → sets cs i vs = cs.take i ++ vs
  | [], cs, i, h => by simp at h; subst h; simp [sets]
  | v :: vs, cs, i, h => by
    simp only [List.length_cons] at h
    unfold sets
    rw [sets_same (by simp; omega)]
    have : (cs.set i v).take (i + 1) = cs.take i ++ [v] := by
      rw [List.take_succ_eq_append_getElem (by simp; omega), List.take_set_of_le (Nat.le_refl _)]
      simp
    rw [this]; simp
theorem sets_len : ∀ {vs : List Value} {cs : List Value} {i : Nat}, (sets cs i vs).length = cs.length
  | [], _, _ => rfl
  | v :: vs, cs, i => by unfold sets; rw [sets_len]; simp
theorem sets_mid : ∀ {vs : List Value} {a b c : List Value} {i : Nat}, i + vs.length ≤ b.length → sets (a ++ b ++ c) (a.length + i) vs = a ++ sets b i vs ++ c
  | [], _, _, _, _, _ => rfl
  | v :: vs, a, b, c, i, h => by
    simp only [List.length_cons] at h
    unfold sets
    have e : (a ++ b ++ c).set (a.length + i) v = a ++ b.set i v ++ c := by
      rw [List.append_assoc, List.append_assoc, List.set_append_right _ _ (by omega), List.set_append_left _ _ (by omega)]
      simp
    rw [e, Nat.add_assoc, sets_mid (by simp; omega)]
theorem sets_whole {zs vs : List Value} (h : zs.length = vs.length) : sets zs 0 vs = vs := by rw [sets_same (by omega)]; simp
/-- A new struct, filled. -/
theorem fresh {w : World} {e : TypeId} {zs vs : List Value} {Q : World → Prop} (hl : zs.length = vs.length)
    (h : ∀ w', Blk w' w.heap.size e vs → Below w.heap.size w w' → w'.heap.size = w.heap.size + 1 → Q w') :
    wlet (w.alloc (.cells ⟨zs⟩ e)) fun w1 => stores ⟨w.heap.size, 0, none⟩ 0 vs w1 Q := by
  refine wlet_intro fun w1 h1 => ?_
  subst h1
  refine stores_blk (Blk.new w e zs) (by omega) fun w' h1 h2 h3 => ?_
  rw [Nat.zero_add, sets_whole hl] at h1
  refine h w' h1 (Kp.below_trans (Below.alloc (Below.refl _ w) (Nat.le_refl _) _) h2 (by simp) (fun i hi e => by omega)) (by rw [h3]; simp)

/-! lists of rows, flat -/
section Flat
variable {α : Type} {f : α → List Value} {m : Nat}
theorem flat_len (hm : ∀ x, (f x).length = m) : ∀ l : List α, (l.flatMap f).length = l.length * m
  | [] => by simp
  | x :: l => by simp only [List.flatMap_cons, List.length_append, List.length_cons, hm, flat_len hm l, Nat.add_mul]; omega
theorem flat_split (hm : ∀ x, (f x).length = m) {l : List α} {k : Nat} {x : α} (hk : l[k]? = some x) : ∃ a c, l = a ++ x :: c ∧ a.length = k ∧ (a.flatMap f).length = k * m ∧ ∀ y, l.set k y = a ++ y :: c := by
  obtain ⟨hl, rfl⟩ := List.getElem?_eq_some_iff.1 hk
  refine ⟨l.take k, l.drop (k + 1), ?_, by simp; omega, by rw [flat_len hm]; simp [Nat.min_eq_left (Nat.le_of_lt hl)], fun y => ?_⟩
  · rw [← List.drop_eq_getElem_cons hl, List.take_append_drop]
  · exact List.set_eq_take_append_cons_drop .. |>.trans (if_pos hl)
theorem flat_at (hm : ∀ x, (f x).length = m) {l : List α} {k j : Nat} {x : α} {v : Value} (hk : l[k]? = some x) (hv : (f x)[j]? = some v) : (l.flatMap f)[k * m + j]? = some v := by
  obtain ⟨a, c, rfl, ha, hf, _⟩ := flat_split hm hk
  have hj : j < m := by rw [← hm x]; exact (List.getElem?_eq_some_iff.1 hv).1
  rw [List.flatMap_append, List.flatMap_cons, List.getElem?_append_right (by omega), hf, Nat.add_sub_cancel_left, List.getElem?_append_left (by rw [hm]; exact hj)]
  exact hv
theorem flat_sets (hm : ∀ x, (f x).length = m) {l : List α} {k i : Nat} {x y : α} {vs more : List Value} (hk : l[k]? = some x) (hi : i + vs.length ≤ m) (hy : sets (f x) i vs = f y) :
    sets (l.flatMap f ++ more) (k * m + i) vs = (l.set k y).flatMap f ++ more := by
  obtain ⟨a, c, e, ha, hf, hs⟩ := flat_split hm hk
  rw [hs, e, List.flatMap_append, List.flatMap_cons, List.flatMap_append, List.flatMap_cons]
  have := sets_mid (a := a.flatMap f) (b := f x) (c := c.flatMap f ++ more) (i := i) (vs := vs) (by rw [hm]; exact hi)
  rw [hf, hy] at this
  simpa [List.append_assoc] using this
/-- A row of a slice that is read. -/
theorem Cs.row {w : World} {A : Option Addr} {l : List α} (h : Cs w A (l.flatMap f)) (hm : ∀ x, (f x).length = m) {k : Nat} {x : α} (hk : l[k]? = some x) (hp : 0 < m) :
    ∃ a, A = some a ∧ ∀ j v, (f x)[j]? = some v → w.cell? ((a.add (k * m)).add j) = some v := by
  have h0 : ∃ v, (f x)[0]? = some v := ⟨(f x)[0]'(by rw [hm]; exact hp), by rw [List.getElem?_eq_getElem]⟩
  obtain ⟨v0, hv0⟩ := h0
  obtain ⟨a, rfl, _⟩ := h _ _ (flat_at hm hk hv0)
  refine ⟨a, rfl, fun j v hv => ?_⟩
  obtain ⟨a', e, hc⟩ := h _ _ (flat_at hm hk hv)
  cases e
  rw [add_add]
  exact hc
/-- A row of the call's own is written, whole or in part. -/
theorem own_stores {w : World} {base n c : Nat} {e : TypeId} {a : Addr} {l : List α} {k i : Nat} {x y : α} {vs : List Value} {Q : World → Prop} (h : w.ownsRow base e m (.slice (some a) n c) n (l.flatMap f)) (hm : ∀ x, (f x).length = m)
    (hk : l[k]? = some x) (hi : i + vs.length ≤ m) (hy : sets (f x) i vs = f y)
    (hQ : ∀ w', w'.ownsRow base e m (.slice (some a) n c) n ((l.set k y).flatMap f) → Kp (· = a.block) w w' → w'.heap.size = w.heap.size → Q w') : stores (a.add (k * m)) i vs w Q := by
  have hlen := h.1
  rcases h.2 with ⟨h2, _⟩ | ⟨g, cap, cur, h2, hb, hh, h3, h4, h5, h6⟩
  · cases h2
  cases h2
  rw [flat_len hm] at hlen
  have hkl := (List.getElem?_eq_some_iff.1 hk).1
  have hcur : cur.toList = l.flatMap f ++ cur.toList.drop (n * m) := by rw [← h6]; simp
  have hcl : cur.toList.length = c * m := by simpa using h5
  have hkm : k * m + m ≤ n * m := by
    have hle : (k + 1) * m ≤ l.length * m := Nat.mul_le_mul_right m hkl
    rw [hlen, Nat.add_mul] at hle; omega
  have hnc : n * m ≤ c * m := Nat.mul_le_mul_right m h3
  rw [add_at, Nat.zero_add]
  refine stores_blk (e := e) (cs := cur.toList) (by unfold Blk; simpa using hh) (by rw [hcl]; omega) fun w' h1 h2 h7 => ?_
  have e1 : sets cur.toList (k * m + i) vs = (l.set k y).flatMap f ++ cur.toList.drop (n * m) := by
    rw [hcur, flat_sets hm hk hi hy, ← hcur]
  refine hQ w' ⟨by rw [flat_len hm, List.length_set]; exact hlen, .inr ⟨g, c, ⟨sets cur.toList (k * m + i) vs⟩, rfl, hb, h1, h3, h4, by simp [sets_len, h5], ?_⟩⟩ h2 h7
  rw [e1, List.take_left' (by rw [flat_len hm, List.length_set]; exact hlen)]
/-- The same of a block that is known whole. -/
theorem blk_stores {w : World} {g : Nat} {e : TypeId} {l : List α} {k i : Nat} {x y : α} {vs : List Value} {Q : World → Prop} (h : Blk w g e (l.flatMap f)) (hm : ∀ x, (f x).length = m)
    (hk : l[k]? = some x) (hi : i + vs.length ≤ m) (hy : sets (f x) i vs = f y)
    (hQ : ∀ w', Blk w' g e ((l.set k y).flatMap f) → Kp (· = g) w w' → w'.heap.size = w.heap.size → Q w') : stores ((⟨g, 0, none⟩ : Addr).add (k * m)) i vs w Q := by
  have hkl := (List.getElem?_eq_some_iff.1 hk).1
  have hkm : (k + 1) * m ≤ l.length * m := Nat.mul_le_mul_right m hkl
  rw [Nat.add_mul] at hkm
  rw [add_at, Nat.zero_add]
  refine stores_blk h (by rw [flat_len hm]; omega) fun w' h1 h2 h7 => hQ w' ?_ h2 h7
  have := flat_sets (more := []) hm hk hi hy
  rw [List.append_nil, List.append_nil] at this
  rw [← this]; exact h1
end Flat

/-! rows of the call's own -/
theorem own_below {w w' : World} {base : Nat} {e : TypeId} {size n : Nat} {v : Value} {xs : List Value} (h : w.ownsRow base e size v n xs) (g : w.grownBy w' v.ownBlock) (hb : base ≤ w.heap.size) : Below base w w' := by
  refine (Kp.of_grown g).below hb fun i hi hs => ?_
  rcases h.2 with ⟨rfl, _⟩ | ⟨g0, cap, cur, rfl, hbg, _⟩
  · simp [Value.ownBlock] at hs
  · simp [Value.ownBlock] at hs; omega
theorem own_new {w : World} {e : TypeId} {base size n : Nat} {cs : List Value} (hb : base ≤ w.heap.size) (hm : n ≤ maxLen) (hn : cs.length = n * size) : (w.alloc (.cells ⟨cs⟩ e)).ownsRow base e size (.slice (some ⟨w.heap.size, 0, none⟩) n n) n cs := by
  have := own_of_blk (size := size) (n := n) (c := n) (Blk.new w e cs) hb hn (Nat.le_refl _) hm
  simpa [← hn] using this
theorem own_mono {w : World} {base base' : Nat} {e : TypeId} {size n : Nat} {v : Value} {xs : List Value} (h : w.ownsRow base e size v n xs) (hb : base' ≤ base) : w.ownsRow base' e size v n xs := by
  refine ⟨h.1, ?_⟩
  rcases h.2 with h2 | ⟨g, cap, cur, e1, hbg, rest⟩
  · exact .inl h2
  · exact .inr ⟨g, cap, cur, e1, Nat.le_trans hb hbg, rest⟩
theorem own_len {w : World} {base : Nat} {e : TypeId} {size n : Nat} {v : Value} {xs : List Value} (h : w.ownsRow base e size v n xs) : xs.length = n * size := h.1
theorem own_lt {w : World} {base : Nat} {e : TypeId} {size n : Nat} {v : Value} {xs : List Value} (h : w.ownsRow base e size v n xs) {g : Nat} (hg : v.ownBlock = some g) : base ≤ g ∧ g < w.heap.size := by
  rcases h.2 with ⟨rfl, _⟩ | ⟨g0, cap, cur, rfl, hbg, hh, _⟩
  · simp [Value.ownBlock] at hg
  · simp [Value.ownBlock] at hg; subst hg; exact ⟨hbg, (Array.getElem?_eq_some_iff.1 hh).1⟩
theorem own_below_kp {w w' : World} {base : Nat} {e : TypeId} {size n : Nat} {v : Value} {xs : List Value} (h : w.ownsRow base e size v n xs) (k : Below w.heap.size w w') : w'.ownsRow base e size v n xs :=
  own_kp h (Kp.of_below k) (fun _ _ => id)
theorem exists_map {α : Type} {f : α → List Value} {Q : α → Prop} : ∀ {rows : List (List Value)}, (∀ r ∈ rows, ∃ x, Q x ∧ r = f x) → ∃ l : List α, rows = l.map f ∧ ∀ x ∈ l, Q x
  | [], _ => ⟨[], rfl, by simp⟩
  | r :: rows, h => by
    obtain ⟨x, hx, e⟩ := h r (by simp)
    obtain ⟨l, e2, hl⟩ := exists_map (rows := rows) (fun r' hr' => h r' (List.mem_cons_of_mem _ hr'))
    exact ⟨x :: l, by simp [e, e2], by simpa using ⟨hx, hl⟩⟩

/-! ### 13. '==' of structs and arrays of plain cells -/
/-- x and y are of the plain type t, and are the same just if r. -/
def SameAs (P : Program) (t : TypeId) (x y : Value) (r : Bool) : Prop :=
  (∃ k k' a b, P.underlying t = some (.int k') ∧ x = .int k a ∧ y = .int k b ∧ r = (a == b)) ∨ (∃ a b, P.underlying t = some .bool ∧ x = .bool a ∧ y = .bool b ∧ r = (a == b))
theorem SameAs.int {P : Program} {t : TypeId} {k k' : IntKind} {a b : Int} (h : P.underlying t = some (.int k')) : SameAs P t (.int k a) (.int k b) (a == b) := .inl ⟨k, k', a, b, h, rfl, rfl, rfl⟩
theorem SameAs.bool {P : Program} {t : TypeId} {a b : Bool} (h : P.underlying t = some .bool) : SameAs P t (.bool a) (.bool b) (a == b) := .inr ⟨a, b, h, rfl, rfl, rfl⟩
theorem SameAs.run {P : Program} {t : TypeId} {x y : Value} {r : Bool} (h : SameAs P t x y r) (d : Nat) (w : World) : (Op.equalIn (d + 1) t x y).run P w = .ok r w := by
  rcases h with ⟨k, k', a, b, h, rfl, rfl, rfl⟩ | ⟨a, b, h, rfl, rfl, rfl⟩
  · exact run_equalIn_int w d t k k' a b h
  · exact run_equalIn_bool' w d t a b h
theorem SameAs.part {P : Program} {t : TypeId} {x y : Value} {r : Bool} (h : SameAs P t x y r) {cs : Array Value} {o : Nat} {v : Value} (hc : cs[o]? = some v) (w : World) : (part t cs o).run P w = .ok v w := by
  have hu : (∃ k, P.underlying t = some (.int k)) ∨ P.underlying t = some .bool := by
    rcases h with ⟨k, k', a, b, h, _⟩ | ⟨a, b, h, _⟩
    · exact .inl ⟨_, h⟩
    · exact .inr h
  rcases hu with ⟨k, hu⟩ | hu <;> simp [Go.part, isAgg, run_underlying hu, hc]
/-- The cells of the fields from number o on. -/
inductive SameFields (P : Program) (xs ys : Array Value) : List Field → Nat → Bool → Prop
  | nil (o : Nat) : SameFields P xs ys [] o true
  | cons {f : Field} {fs : List Field} {o : Nat} {x y : Value} {r s : Bool} (hn : (f.name == "_") = false) (ho : f.offset = o) (hx : xs[o]? = some x) (hy : ys[o]? = some y) (h : SameAs P f.type x y r) (hs : SameFields P xs ys fs (o + 1) s) : SameFields P xs ys (f :: fs) o (r && s)
theorem SameFields.run {P : Program} {xs ys : Array Value} {fs : List Field} {o : Nat} {s : Bool} (h : SameFields P xs ys fs o s) (d : Nat) (w : World) : (Op.eqFields (d + 1) xs ys fs).run P w = .ok s w := by
  induction h with
  | nil o => simp [Op.eqFields]
  | cons hn ho hx hy h hs ih =>
    rename_i r s
    subst ho
    have hn' := by simpa using hn
    rw [Op.eqFields]
    simp only [if_pos hn', Sem.run_bind, h.part hx, h.part hy, h.run, Result.andThen_ok]
    cases r
    · simp
    · simpa using ih
theorem aggEq_of {P : Program} {t : TypeId} {xs ys : Array Value} {b : Bool} (hg : P.eqGuardType P.depth t = false) (h : ∀ w, (Op.equalIn Op.maxDepth t (.agg xs) (.agg ys)).run P w = .ok b w) :
    aggEq P .eql t (.agg xs) (.agg ys) (.bool b) ∧ aggEq P .neq t (.agg xs) (.agg ys) (.bool (!b)) := by
  constructor
  · intro X Y w
    simp [eqGuard, hg, binOp, Op.equal, h]
  · intro X Y w
    simp [eqGuard, hg, binOp, Op.equal, h]
theorem aggEq_struct {P : Program} {t : TypeId} {fs : Array Field} {xs ys : Array Value} {b : Bool} (hu : P.underlying t = some (.struct fs)) (hp : P.stoodInHeld t = false) (hg : P.eqGuardType P.depth t = false)
    (h : SameFields P xs ys fs.toList 0 b) : aggEq P .eql t (.agg xs) (.agg ys) (.bool b) ∧ aggEq P .neq t (.agg xs) (.agg ys) (.bool (!b)) := by
  refine aggEq_of hg fun w => ?_
  have hf : P.fieldsOf t = fs := by simp [Program.fieldsOf, hu]
  have := run_equalIn_struct (P := P) w 9999 t xs ys (by rw [hf]; exact hu) hp
  rw [show Op.maxDepth = 9999 + 1 from rfl, this, hf]
  exact h.run 9998 w
theorem aggEq_array2 {P : Program} {t e : TypeId} {a0 a1 b0 b1 : Value} {r0 r1 : Bool} (hu : P.underlying t = some (.array 2 e)) (hs : (P.info? e).map (·.size) = some 1) (hg : P.eqGuardType P.depth t = false)
    (h0 : SameAs P e a0 b0 r0) (h1 : SameAs P e a1 b1 r1) : aggEq P .eql t (.agg #[a0, a1]) (.agg #[b0, b1]) (.bool (r0 && r1)) ∧ aggEq P .neq t (.agg #[a0, a1]) (.agg #[b0, b1]) (.bool (!(r0 && r1))) := by
  refine aggEq_of hg fun w => ?_
  obtain ⟨i, hi, hi1⟩ := Option.map_eq_some_iff.1 hs
  have key : ∀ d, (Op.equalIn (d + 1 + 1) t (.agg #[a0, a1]) (.agg #[b0, b1])).run P w = .ok (r0 && r1) w := fun d => by
    rw [Op.equalIn]
    have e0 := h0.run d w
    have e1 := h1.run d w
    generalize hE : Op.equalIn (d + 1) = E at e0 e1
    cases r0 <;> cases r1 <;> simp [run_underlying hu, sizeOf, typeInfo, hi, hi1, Std.Legacy.Range.forIn_eq_forIn_range', Std.Legacy.Range.size, List.range', List.forIn_cons, List.forIn_nil, h0.part (cs := #[a0, a1]) (o := 0) rfl, h0.part (cs := #[b0, b1]) (o := 0) rfl, h1.part (cs := #[a0, a1]) (o := 1) rfl, h1.part (cs := #[b0, b1]) (o := 1) rfl, e0, e1]
  exact key 9998

/-! ### 14. What a call may turn: its objects' blocks, and new ones -/
structure Mv (F : Nat → Prop) (w w' : World) (F' : Nat → Prop) : Prop where
  kp : Kp F w w'
  foot : ∀ i, F' i → F i ∨ w.heap.size ≤ i
theorem Mv.refl (F : Nat → Prop) (w : World) : Mv F w w F := ⟨Kp.refl F w, fun _ h => .inl h⟩
theorem Mv.trans {F F' F'' : Nat → Prop} {a b c : World} (h : Mv F a b F') (k : Mv F' b c F'') : Mv F a c F'' :=
  ⟨h.kp.trans k.kp (fun _ _ h => h) (fun i hi hF' => by
    rcases h.foot i hF' with h1 | h1
    · exact h1
    · omega), fun i hi => by
    rcases k.foot i hi with h1 | h1
    · exact h.foot i h1
    · exact .inr (Nat.le_trans h.kp.size h1)⟩
theorem Mv.of_below {F : Nat → Prop} {w w' : World} (h : Below w.heap.size w w') : Mv F w w' F := ⟨(Kp.of_below h).mono (fun _ _ h => h.elim), fun _ h => .inl h⟩
theorem Mv.of_kp {F : Nat → Prop} {w w' : World} (h : Kp F w w') : Mv F w w' F := ⟨h, fun _ h => .inl h⟩
theorem Mv.below {F F' : Nat → Prop} {w w' : World} {b : Nat} (h : Mv F w w' F') (hF : ∀ i, F i → b ≤ i) (hb : b ≤ w.heap.size) : Below b w w' := h.kp.below hb (fun i hi hs => by have := hF i hs; omega)
theorem Mv.base {F F' : Nat → Prop} {w w' : World} {b : Nat} (h : Mv F w w' F') (hF : ∀ i, F i → b ≤ i) (hb : b ≤ w.heap.size) : ∀ i, F' i → b ≤ i := fun i hi => by
  rcases h.foot i hi with h1 | h1
  · exact hF i h1
  · omega
theorem Mv.apart {F F' G : Nat → Prop} {w w' : World} (h : Mv F w w' F') (hd : ∀ i, F i → ¬ G i) (hG : ∀ i, G i → i < w.heap.size) : ∀ i, F' i → ¬ G i := fun i hi hg => by
  rcases h.foot i hi with h1 | h1
  · exact hd i h1 hg
  · have := hG i hg; omega
theorem Mv.mono {F G F' : Nat → Prop} {w w' : World} (h : Mv F w w' F') (hs : ∀ i, F i → G i) : Mv G w w' F' := ⟨h.kp.mono (fun i _ => hs i), fun i hi => (h.foot i hi).imp (hs i) id⟩
/-- Beside what is turned, other blocks stay. -/
theorem Mv.beside {F F' G : Nat → Prop} {w w' : World} (h : Mv F w w' F') : Mv (fun i => F i ∨ G i) w w' (fun i => F' i ∨ G i) :=
  ⟨h.kp.mono (fun _ _ => .inl), fun i hi => by
    rcases hi with hi | hi
    · rcases h.foot i hi with h1 | h1
      · exact .inl (.inl h1)
      · exact .inr h1
    · exact .inl (.inr hi)⟩
theorem Mv.beside' {F F' G : Nat → Prop} {w w' : World} (h : Mv F w w' F') : Mv (fun i => G i ∨ F i) w w' (fun i => G i ∨ F' i) :=
  ⟨h.kp.mono (fun _ _ => .inr), fun i hi => by
    rcases hi with hi | hi
    · exact .inl (.inl hi)
    · rcases h.foot i hi with h1 | h1
      · exact .inl (.inr h1)
      · exact .inr h1⟩

/-! ### 15. append, once more: where the new row lies -/
theorem append_where {P : Program} (w : World) (base : Nat) (t ty e : TypeId) (i : TypeInfo) (z : Value) (size bytes : Nat) (ht : P.underlying t = some (.slice e)) (hi : P.info? e = some i) (hz : i.zero = some z)
    (hsize : i.size = size) (hby : i.bytes = bytes) (hsz : 0 < size) (v : Value) (n : Nat) (xs : List Value) (hown : w.ownsRow base e size v n xs)
    (a : Addr) (m c : Nat) (news : List Value) (hl : news.length = m * size) (hnews : ∀ j u, news[j]? = some u → w.cell? (a.add j) = some u) (h1 : ∀ u ∈ news, u.oneCell' = true)
    (h63 : n + m ≤ maxLen) (hbytes : (n + m) * bytes ≤ 140737488355328) {v' : Value} {w' : World} (hr : (Builtin.append_ #[t, t] ty #[v, .slice (some a) m c]).run P w = .ok v' w') :
    v'.ownBlock = v.ownBlock ∨ v'.ownBlock = some w.heap.size := by
  subst hsize
  subst hby
  have hsmall : n + m ≤ 9223372036854775807 := by simp only [maxLen] at h63; omega
  rcases hown.2 with ⟨rfl, rfl⟩ | ⟨g, cap, cur, rfl, hbg, hg, hnc, hcm, hcs, htake⟩
  · by_cases hm : m = 0
    · subst hm
      have hn : news = [] := List.eq_nil_of_length_eq_zero (by simpa using hl)
      subst hn
      simp [Builtin.append_, run_underlying ht, sizeOf, typeInfo, hi, Builtin.lenOf, Builtin.firstCells, loadCells, loadCellsFrom] at hr
      rw [← hr.1]; exact .inl rfl
    · have hr2 := run_append_nil (P := P) w t ty e i z ht hi hz a m c news hl hnews (by omega) (by omega) (by have hb := hbytes; simp only [Nat.zero_add] at hb; omega)
      rw [hr2] at hr
      injection hr with e1 e2
      rw [← e1]; exact .inr rfl
  · by_cases hroom : n + m ≤ cap
    · have hfit : n * i.size + news.length ≤ cur.size := by rw [hl, hcs, ← Nat.add_mul]; exact Nat.mul_le_mul_right _ hroom
      have hr2 := run_append_room (P := P) w t ty e i ht hi g n cap cur hg a m c news hl hnews h1 hroom hfit
      rw [hr2] at hr
      injection hr with e1 e2
      rw [← e1]; exact .inl rfl
    · have holds : ∀ j u, xs[j]? = some u → w.cell? ((⟨g, 0, none⟩ : Addr).add j) = some u := hown.cells (g := g) rfl
      have hr2 := run_append_grow (P := P) w t ty e i z ht hi hz ⟨g, 0, none⟩ n cap xs hown.1 holds a m c news hl hnews (by omega) (by omega) (growslice_fits (by omega) hbytes)
      rw [hr2] at hr
      injection hr with e1 e2
      rw [← e1]; exact .inr rfl
theorem app_own {P : Program} (base : Nat) {t ty e : TypeId} {z : Value} {size bytes : Nat} (ht : P.underlying t = some (.slice e)) (hI : (P.info? e).map (fun i => (i.zero, i.size, i.bytes)) = some (some z, size, bytes)) (hzs : z.cells.size = size) (hsz : 0 < size)
    {w : World} {v : Value} {n : Nat} {xs : List Value} (hown : w.ownsRow base e size v n xs)
    {B : Option Addr} {m c : Nat} {news : List Value} (hl : news.length = m * size) (hnews : Cs w B news) (h1 : ∀ u ∈ news, u.oneCell' = true)
    (hbytes : (n + m) * bytes ≤ 140737488355328) (h0 : 0 < bytes) (hbase : base ≤ w.heap.size) {K : Value → World → Prop}
    (h : ∀ A' c' w', w'.ownsRow base e size (.slice A' (n + m) c') (n + m) (xs ++ news) → Mv (fun g => v.ownBlock = some g) w w' (fun g => (Value.slice A' (n + m) c').ownBlock = some g) → K (.slice A' (n + m) c') w') :
    SemJ P (Builtin.append_ #[t, t] ty #[v, .slice B m c]) K w := by
  obtain ⟨i, hi, he⟩ := Option.map_eq_some_iff.1 hI
  simp only [Prod.mk.injEq] at he
  obtain ⟨hz, hsize, hby⟩ := he
  have h63 : n + m ≤ maxLen := by
    have : (n + m) * 1 ≤ (n + m) * bytes := Nat.mul_le_mul_left _ h0
    unfold maxLen; omega
  cases B with
  | some a =>
    intro w1 he
    have hown1 := own_eqv hown he
    have hnews1 : ∀ j u, news[j]? = some u → w1.cell? (a.add j) = some u := fun j u hj => by
      obtain ⟨a', e1, hc⟩ := hnews j u hj
      cases e1
      rw [he.cell?]
      exact hc
    obtain ⟨v', w', hr, h2, h3, h4⟩ := run_append_own (P := P) w1 base t ty e i z size bytes ht hi hz hsize hby hzs hsz v n xs hown1 a m c news hl hnews1 h1 h63 hbytes (by rw [he.heap]; exact hbase)
    have hw := append_where (P := P) w1 base t ty e i z size bytes ht hi hz hsize hby hsz v n xs hown1 a m c news hl hnews1 h1 h63 hbytes hr
    obtain ⟨A', c', rfl, _⟩ := own_form h2
    refine ⟨_, w', w', hr, Eqv.refl _, h A' c' w' h2 ⟨(Kp.of_grown h3).eqv_left he, fun g hg => ?_⟩⟩
    rcases hw with hw | hw
    · exact .inl (hw ▸ hg)
    · rw [hw] at hg
      cases hg
      exact .inr (by rw [he.heap]; exact Nat.le_refl _)
  | none =>
    have hnil : news = [] := by
      cases news with
      | nil => rfl
      | cons u us => obtain ⟨a, e1, _⟩ := hnews 0 u rfl; cases e1
    subst hnil
    have hm : m = 0 := by
      have h0 : m * size = 0 := by simpa using hl.symm
      rcases Nat.mul_eq_zero.1 h0 with h | h
      · exact h
      · omega
    subst hm
    intro w1 he
    obtain ⟨A, c0, rfl, hnc, hf⟩ := own_form hown
    refine ⟨.slice A n c0, w1, w1, ?_, Eqv.refl _, h A c0 w1 (by simpa using own_eqv hown he) ⟨(Kp.refl _ w).eqv he, fun g hg => .inl hg⟩⟩
    cases A <;> simp [Builtin.append_, run_underlying ht, sizeOf, typeInfo, hi, Builtin.lenOf, hnc, Builtin.firstCells, storeCells]

/-! ### 11. Regions where two operations that act may come in either order -/
def shStep (P : Program) (n : Nat) (ops : List Oper) (S : Array Obj → Prop) (i m : Nat) (k : Fr → World → Prop) (σ : Fr) (w : World) : Prop :=
  match ops[i]? with
  | some o => match dstOk n o.dst with
    | true => match wantedS ops σ o with
      | some true => match m with
        | 0 => stepS P σ o (fun v w' => splitK (isGuard ops i) v fun v => k (updo σ o.dst v) w') w
        | 1 => match o.op with
          | .load t x => nHeld P S t (ev σ x) fun v => splitK (isGuard ops i) v fun v => k (updo σ o.dst v) w
          | _ => False
        | 2 => stepS P σ o (fun v w' => S w'.heap ∧ splitK (isGuard ops i) v fun v => k (updo σ o.dst v) w') w
        | _ => stepS P σ o (fun v w' => splitK (isGuard ops i) v fun v => k (updo σ o.dst v) w') w
      | some false => k (updo σ o.dst undef) w
      | none => False
    | false => False
  | none => False
/-- The orders, as a tree: (0, i, m): step i in the way m; a fork: one of two first. -/
inductive OT where
  | done : OT
  | step (i m : Nat) (t : OT) : OT
  | fork (i : Nat) (t : OT) (j : Nat) (u : OT) : OT
def shT (P : Program) (n : Nat) (ops : List Oper) (S : Array Obj → Prop) (K : Fr → World → Prop) : OT → Fr → World → Prop
  | .done, σ, w => K σ w
  | .step i m t, σ, w => shStep P n ops S i m (shT P n ops S K t) σ w
  | .fork i t j u, σ, w => shStep P n ops S i 2 (shT P n ops S K t) σ w ∧ shStep P n ops S j 2 (shT P n ops S K u) σ w
def okStep (P : Program) (ops : Array Oper) (D : List Nat) (i m : Nat) (listed : Array Bool) : Bool :=
  match m with
  | 0 => (match ops.toList[i]? with | some o => pureB P o.op | none => false) && (Region.ready .any ops listed).contains i && Region.free .any ops listed i
  | 1 => (Region.ready .any ops listed).contains i && Region.free .any ops listed i && D.all (fun d => edgeOn ops.toList d i) && D.all (fun d => !listed.getD d false)
  | 2 => Region.ready .any ops listed == [i] && !D.contains i
  | _ => Region.ready .any ops listed == [i] && D.contains i
def okT (P : Program) (ops : Array Oper) (D : List Nat) : OT → Array Bool → Bool
  | .done, listed => (Region.ready .any ops listed).isEmpty
  | .step i m t, listed => okStep P ops D i m listed && okT P ops D t (listed.setIfInBounds i true)
  | .fork i t j u, listed => Region.ready .any ops listed == [i, j] && (!D.contains i && !D.contains j) && (okT P ops D t (listed.setIfInBounds i true) && okT P ops D u (listed.setIfInBounds j true))
def OT.len : OT → Nat
  | .done => 0
  | .step _ _ t => t.len + 1
  | .fork _ t _ _ => t.len + 1
def OT.even : OT → Bool
  | .done => true
  | .step _ _ t => t.even
  | .fork _ t _ u => t.even && (u.even && Nat.beq t.len u.len)
section
variable {P : Program} {n : Nat} {ops : Array Oper} {S : Array Obj → Prop} {D : List Nat} {Q : Exit → Fr → World → Prop}
/-- What follows a step, however the act goes on. -/
def Nxt (P : Program) (n : Nat) (ops : Array Oper) (S : Array Obj → Prop) (D : List Nat) (Q : Exit → Fr → World → Prop) (fuel : Nat) (listed : Array Bool) (k : Fr → World → Prop) : Prop :=
  ∀ (σ : Fr) (w : World), k σ w → ((D.all fun d => !listed.getD d false) = true → S w.heap) →
    ∀ (a : Act) (w1 : World), a.defers = [] → a.tmps.size = n → Le σ a.tmps → Eqv w1 w → wpA P ops (QN n Q) (fun w => S w.heap) D fuel listed a w1
theorem nxt_put {fuel i : Nat} {o : Oper} {listed : Array Bool} {k : Fr → World → Prop} (hn : Nxt P n ops S D Q fuel (listed.setIfInBounds i true) k) (hd : dstOk n o.dst = true) {σ : Fr} {a : Act} (h1 : a.defers = []) (h2 : a.tmps.size = n) (h3 : Le σ a.tmps)
    (v u : Value) (w' : World) (hk : k (updo σ o.dst v) w') (hu : isJunk v = true ∨ u = v) (hS' : (D.all fun d => !(listed.setIfInBounds i true).getD d false) = true → S w'.heap) (w1' : World) (he : Eqv w1' w') :
    wpA P ops (QN n Q) (fun w => S w.heap) D fuel (listed.setIfInBounds i true) (a.put o.dst u) w1' := by
  refine hn (updo σ o.dst v) w' hk hS' (a.put o.dst u) w1' (by rw [defers_put]; exact h1) (by rw [size_put]; exact h2) ?_ he
  rcases hu with hu | rfl
  · cases hdd : o.dst with
    | none => exact h3
    | some d => exact h3.put_junk d h2 (by rw [← hdd]; exact hd) u v hu
  · exact h3.put h2 hd _
/-- An operation that is carried out alone, or first of two: what it comes to. -/
theorem shStep_op {fuel i : Nat} {listed : Array Bool} {k : Fr → World → Prop} {σ : Fr} {w : World} (hi0 : i ∈ Region.ready .any ops listed) (hiD : i ∉ D) (h : shStep P n ops.toList S i 2 k σ w) (hS : (D.all fun d => !listed.getD d false) = true → S w.heap)
    (hn : Nxt P n ops S D Q fuel (listed.setIfInBounds i true) k) {a : Act} {w1 : World} (h1 : a.defers = []) (h2 : a.tmps.size = n) (h3 : Le σ a.tmps) (h4 : Eqv w1 w) :
    wpOp P ops (QN n Q) i (fun a' w' => (i ∉ D → S w1.heap → S w'.heap) ∧ wpA P ops (QN n Q) (fun w => S w.heap) D fuel (listed.setIfInBounds i true) a' w') a w1 := by
  unfold shStep at h
  split at h
  case h_2 => exact h.elim
  rename_i o hoi
  have hi : ops[i]? = some o := by simpa using hoi
  split at h
  case h_2 => exact h.elim
  rename_i hd
  unfold wpOp
  simp only [hi]
  split at h
  case h_3 => exact h.elim
  case h_1 hw =>
    have := wantedS_spec hw h3
    rw [if_pos this]
    refine .inl ?_
    refine stepS_sound h h3 h4 fun v u w1' w' he hk hu => ?_
    obtain ⟨hSw, hk⟩ := hk
    exact ⟨fun _ _ => by rw [he.heap]; exact hSw, nxt_put hn hd h1 h2 h3 v u w' (splitK_elim hk) hu (fun _ => hSw) w1' he⟩
  case h_2 hw =>
    have := wantedS_spec hw h3
    rw [if_neg (by rw [this]; simp)]
    exact ⟨fun _ h => h, nxt_put hn hd h1 h2 h3 undef undef w h (.inr rfl) (fun h' => hS (all_set_not hiD h')) w1 h4⟩
theorem shStep_sound (hs : Region.noSelect ops = true) {fuel i m : Nat} {listed : Array Bool} {k : Fr → World → Prop} {σ : Fr} {w : World} (ho1 : okStep P ops D i m listed = true) (h : shStep P n ops.toList S i m k σ w) (hS : (D.all fun d => !listed.getD d false) = true → S w.heap)
    (hn : Nxt P n ops S D Q fuel (listed.setIfInBounds i true) k) {a : Act} {w1 : World} (h1 : a.defers = []) (h2 : a.tmps.size = n) (h3 : Le σ a.tmps) (h4 : Eqv w1 w) :
    wpA P ops (QN n Q) (fun w => S w.heap) D (fuel + 1) listed a w1 := by
  unfold shStep at h
  split at h
  case h_2 => exact h.elim
  rename_i o hoi
  have hi : ops[i]? = some o := by simpa using hoi
  split at h
  case h_2 => exact h.elim
  rename_i hd
  have hsel := Region.noSelect_spec hs
  have hQ : ∀ v c (a : Act) w, QN n Q (.panic c) (a.put o.dst v) w → QN n Q (.panic c) a w := fun v c a w h => h
  have go := fun v u w' hk hu hS' w1' he => nxt_put (v := v) (u := u) (w' := w') (w1' := w1') hn hd h1 h2 h3 hk hu hS' he
  have one : ∀ (b : Bool), Region.ready .any ops listed = [i] → (wantedS ops.toList σ o = some b) →
      (b = true → o.wp P a w1 (fun a' w' => (i ∉ D → S w1.heap → S w'.heap) ∧ wpA P ops (QN n Q) (fun w => S w.heap) D fuel (listed.setIfInBounds i true) a' w') (QN n Q)) →
      (b = false → wpA P ops (QN n Q) (fun w => S w.heap) D fuel (listed.setIfInBounds i true) (a.put o.dst undef) w1) →
      wpA P ops (QN n Q) (fun w => S w.heap) D (fuel + 1) listed a w1 := by
    intro b hr hw ht hf
    refine ⟨fun h0 => (by rw [hr] at h0; cases h0), fun j hj => ?_⟩
    rw [hr] at hj
    obtain rfl : j = i := by simpa using hj
    unfold wpOp
    simp only [hi]
    have := wantedS_spec hw h3
    cases b with
    | true => rw [if_pos this]; exact .inl (ht rfl)
    | false => rw [if_neg (by rw [this]; simp)]; exact ⟨fun _ h => h, hf rfl⟩
  unfold okStep at ho1
  split at h
  case h_3 => exact h.elim
  case h_1 hw =>
    split at h
    · simp only [Bool.and_eq_true] at ho1
      obtain ⟨⟨hp, hr⟩, hf⟩ := ho1
      rw [hoi] at hp
      obtain ⟨v, u, hk, hu, hrun⟩ := stepS_pure hp h h3
      have hk' := splitK_elim hk
      have hr' : i ∈ Region.ready .any ops listed := by simpa using hr
      refine wpA_pure hi hsel (hQ u) fuel listed a w1 (Region.free_spec hi hf) hr' (.inl ⟨wantedS_spec hw h3, fun w _ => hrun w⟩) ?_
      refine go v u w hk' hu (fun h' => ?_) w1 h4
      by_cases hin : i ∈ D
      · exact (all_set_in hin (okH_listed hr') h').elim
      · exact hS (all_set_not hin h')
    · simp only [Bool.and_eq_true] at ho1
      obtain ⟨⟨⟨hr, hf⟩, he⟩, hn'⟩ := ho1
      split at h
      case h_2 => exact h.elim
      rename_i t x hop
      obtain ⟨v, hk, hrun⟩ := nHeld_val h
      have hk' := splitK_elim hk
      have hr' : i ∈ Region.ready .any ops listed := by simpa using hr
      have hx : isJunk (ev σ x) = false := by
        unfold nHeld at h
        split at h
        · rename_i p hp; rw [hp]; rfl
        · exact h.elim
      have hev : a.eval x = ev σ x := ev_eq h3 hx
      have hrun' : ∀ w : World, S w.heap → (execOp a.eval o).run P w = .ok (.value v) w := fun w hw' => by
        unfold execOp
        rw [hop]
        simp only [hev]
        exact run_value (hrun w hw')
      refine wpA_take hi hsel (hQ v) fuel listed a w1 (Region.free_spec hi hf) (fun d od hod hdD => ?_) hr' (.inl ⟨wantedS_spec hw h3, hrun'⟩) (by
        have := hS hn'
        show S w1.heap
        rw [h4.heap]
        exact this) ?_
      · have := List.all_eq_true.1 he d hdD
        unfold edgeOn at this
        have hod' : ops.toList[d]? = some od := by simpa using hod
        rw [hod'] at this
        simp only [List.any_eq_true, Bool.and_eq_true] at this
        obtain ⟨e, he1, he2, he3⟩ := this
        exact ⟨e, by simpa using he1, he2, Nat.eq_of_beq_eq_true he3⟩
      · exact go v v w hk' (.inr rfl) (fun _ => hS hn') w1 h4
    · simp only [Bool.and_eq_true, beq_iff_eq, Bool.not_eq_true'] at ho1
      obtain ⟨hr, hnd⟩ := ho1
      have hnd' : i ∉ D := by simpa using hnd
      refine one true hr hw (fun _ => ?_) (fun e => by cases e)
      refine stepS_sound h h3 h4 fun v u w1' w' he hk hu => ?_
      obtain ⟨hSw, hk⟩ := hk
      exact ⟨fun _ _ => by rw [he.heap]; exact hSw, go v u w' (splitK_elim hk) hu (fun _ => hSw) w1' he⟩
    · rename_i h01 h02 h03
      have ho1' : Region.ready .any ops listed = [i] ∧ i ∈ D := by
        split at ho1
        · exact absurd rfl h01
        · exact absurd rfl h02
        · exact absurd rfl h03
        · simpa using ho1
      obtain ⟨hr, hnd⟩ := ho1'
      have hr' : i ∈ Region.ready .any ops listed := by rw [hr]; simp
      refine one true hr hw (fun _ => ?_) (fun e => by cases e)
      refine stepS_sound h h3 h4 fun v u w1' w' he hk hu => ?_
      exact ⟨fun hn => absurd hnd hn, go v u w' (splitK_elim hk) hu (fun h' => (all_set_in hnd (okH_listed hr') h').elim) w1' he⟩
  case h_2 hw =>
    have hyu : ∀ T : World → Prop, YieldsIf P ops T o undef a := fun T => .inr ⟨wantedS_spec hw h3, rfl⟩
    have skip : i ∈ Region.ready .any ops listed → wpA P ops (QN n Q) (fun w => S w.heap) D fuel (listed.setIfInBounds i true) (a.put o.dst undef) w1 := fun hr' =>
      go undef undef w h (.inr rfl) (fun h' => by
        by_cases hin : i ∈ D
        · exact (all_set_in hin (okH_listed hr') h').elim
        · exact hS (all_set_not hin h')) w1 h4
    split at ho1
    · simp only [Bool.and_eq_true] at ho1
      have hr' : i ∈ Region.ready .any ops listed := by simpa using ho1.1.2
      exact wpA_pure hi hsel (hQ undef) fuel listed a w1 (Region.free_spec hi ho1.2) hr' (hyu _) (skip hr')
    · simp only [Bool.and_eq_true] at ho1
      have hr' : i ∈ Region.ready .any ops listed := by simpa using ho1.1.1.1
      exact wpA_pure hi hsel (hQ undef) fuel listed a w1 (Region.free_spec hi ho1.1.1.2) hr' (hyu _) (skip hr')
    · simp only [Bool.and_eq_true, beq_iff_eq] at ho1
      exact one false ho1.1 hw (fun e => by cases e) (fun _ => skip (by rw [ho1.1]; simp))
    · simp only [Bool.and_eq_true, beq_iff_eq] at ho1
      exact one false ho1.1 hw (fun e => by cases e) (fun _ => skip (by rw [ho1.1]; simp))
theorem shT_sound (hs : Region.noSelect ops = true) : ∀ (t : OT) (listed : Array Bool), t.even = true → okT P ops D t listed = true → Nxt P n ops S D Q t.len listed (shT P n ops.toList S (fun σ w => Q .normal σ w) t)
  | .done, listed, _, ho => fun σ w h hS a w1 h1 h2 h3 h4 => ⟨by simpa [okT] using ho, h1, h2, σ, w, h3, h4, h⟩
  | .step i m t, listed, he, ho => fun σ w h hS a w1 h1 h2 h3 h4 => by
    simp only [okT, Bool.and_eq_true] at ho
    exact shStep_sound hs ho.1 h hS (shT_sound hs t _ he ho.2) h1 h2 h3 h4
  | .fork i t j u, listed, he, ho => fun σ w h hS a w1 h1 h2 h3 h4 => by
    simp only [okT, Bool.and_eq_true, beq_iff_eq, Bool.not_eq_true'] at ho
    obtain ⟨⟨hr, hi, hj⟩, ho1, ho2⟩ := ho
    simp only [OT.even, Bool.and_eq_true] at he
    obtain ⟨e1, e2, e3⟩ := he
    have e3 : t.len = u.len := Nat.eq_of_beq_eq_true e3
    have hi' : i ∉ D := by simpa using hi
    have hj' : j ∉ D := by simpa using hj
    have hm : ∀ x, x ∈ Region.ready .any ops listed ↔ x = i ∨ x = j := fun x => by rw [hr]; simp
    refine ⟨fun h0 => (by rw [hr] at h0; cases h0), fun x hx => ?_⟩
    rcases (hm x).1 hx with rfl | rfl
    · exact shStep_op hx hi' h.1 hS (shT_sound hs t _ e1 ho1) h1 h2 h3 h4
    · have := shStep_op (Q := Q) hx hj' h.2 hS (shT_sound hs u _ e2 ho2) h1 h2 h3 h4
      rw [← e3] at this
      exact this
end
def heldOkT (P : Program) (ops : Array Oper) (D : List Nat) (t : OT) : Bool :=
  P.follows .mixedOrders && Region.noSelect ops && (okT P ops D t (Array.replicate ops.size false) && t.even) && Nat.beq t.len ops.size
theorem J_heldT (D : List Nat) (t : OT) {P : Program} {n : Nat} {id : Nat} {ops : Array Oper} {Q : Exit → Fr → World → Prop} {σ : Fr} {w : World} (hd : heldOkT P ops D t = true)
    (h : ∃ S : Array Obj → Prop, S w.heap ∧ shT P n ops.toList S (fun σ w => Q .normal σ w) t σ w) : J P n (.region id ops true) Q σ w := by
  simp only [heldOkT, Bool.and_eq_true] at hd
  obtain ⟨⟨⟨h1, h2⟩, h3, h5⟩, h4⟩ := hd
  obtain ⟨S, hS, h⟩ := h
  intro a w1 k1 k2 k3 k4
  have hl : t.len = ops.size := Nat.eq_of_beq_eq_true h4
  have hw : Eqv { w1 with drawn := w1.drawn + 1 } w := ⟨k4.heap, k4.tape, k4.os, k4.output⟩
  have key := shT_sound (D := D) (Q := Q) h2 t (Array.replicate ops.size false) h5 h3 σ w h (fun _ => hS) a _ k1 k2 k3 hw
  rw [hl] at key
  have r := wp_region_any (id := id) (Q := QN n Q) h1 (wpAny_of_A _ _ _ _ key)
  exact wp_mono r fun e a' w' hq => by
    cases e with
    | normal => exact hq
    | _ => exact hq.elim

/-! ### 12. Forks where what is held may be told anew behind each operation that acts -/
def shStepR (P : Program) (n : Nat) (ops : List Oper) (S : Array Obj → Prop) (i m : Nat) (k : (Array Obj → Prop) → Fr → World → Prop) (σ : Fr) (w : World) : Prop :=
  match ops[i]? with
  | some o => match dstOk n o.dst with
    | true => match wantedS ops σ o with
      | some true => match m with
        | 0 => stepS P σ o (fun v w' => splitK (isGuard ops i) v fun v => k S (updo σ o.dst v) w') w
        | 1 => match o.op with
          | .load t x => nHeld P S t (ev σ x) fun v => splitK (isGuard ops i) v fun v => k S (updo σ o.dst v) w
          | _ => False
        | 2 => stepS P σ o (fun v w' => splitK (isGuard ops i) v fun v => ∃ S' : Array Obj → Prop, (∀ H, S' H → S H) ∧ S' w'.heap ∧ k S' (updo σ o.dst v) w') w
        | _ => stepS P σ o (fun v w' => splitK (isGuard ops i) v fun v => k S (updo σ o.dst v) w') w
      | some false => k S (updo σ o.dst undef) w
      | none => False
    | false => False
  | none => False
def shR (P : Program) (n : Nat) (ops : List Oper) (K : Fr → World → Prop) : OT → (Array Obj → Prop) → Fr → World → Prop
  | .done, _, σ, w => K σ w
  | .step i m t, S, σ, w => shStepR P n ops S i m (fun S => shR P n ops K t S) σ w
  | .fork i t j u, S, σ, w => shStepR P n ops S i 2 (fun S => shR P n ops K t S) σ w ∧ shStepR P n ops S j 2 (fun S => shR P n ops K u S) σ w
section
variable {P : Program} {n : Nat} {ops : Array Oper} {S : Array Obj → Prop} {Q : Exit → Fr → World → Prop}
theorem wpA_weaken {Q : Exit → Act → World → Prop} {S S' : World → Prop} (hsub : ∀ w, S' w → S w) : ∀ (fuel : Nat) (listed : Array Bool) (a : Act) (w : World), S' w → wpA P ops Q S' [] fuel listed a w → wpA P ops Q S [] fuel listed a w
  | 0, _, _, _, _, h => h
  | fuel + 1, _, _, _, hw, h => ⟨h.1, fun i hi => wpOp_mono (fun a' w' h' => ⟨fun hd _ => hsub _ (h'.1 hd hw), wpA_weaken hsub fuel _ a' w' (h'.1 (by simp) hw) h'.2⟩) (h.2 i hi)⟩
theorem shStepR_op {fuel i : Nat} {listed : Array Bool} {k : (Array Obj → Prop) → Fr → World → Prop} {σ : Fr} {w : World} (h : shStepR P n ops.toList S i 2 k σ w) (hS : S w.heap)
    (hn : ∀ S', Nxt P n ops S' [] Q fuel (listed.setIfInBounds i true) (k S')) {a : Act} {w1 : World} (h1 : a.defers = []) (h2 : a.tmps.size = n) (h3 : Le σ a.tmps) (h4 : Eqv w1 w) :
    wpOp P ops (QN n Q) i (fun a' w' => (i ∉ ([] : List Nat) → S w1.heap → S w'.heap) ∧ wpA P ops (QN n Q) (fun w => S w.heap) [] fuel (listed.setIfInBounds i true) a' w') a w1 := by
  unfold shStepR at h
  split at h
  case h_2 => exact h.elim
  rename_i o hoi
  have hi : ops[i]? = some o := by simpa using hoi
  split at h
  case h_2 => exact h.elim
  rename_i hd
  unfold wpOp
  simp only [hi]
  split at h
  case h_3 => exact h.elim
  case h_1 hw =>
    have := wantedS_spec hw h3
    rw [if_pos this]
    refine .inl ?_
    refine stepS_sound h h3 h4 fun v u w1' w' he hk hu => ?_
    obtain ⟨S', hsub, hS', hk⟩ := splitK_elim hk
    have hS1 : S' w1'.heap := by rw [he.heap]; exact hS'
    exact ⟨fun _ _ => hsub _ hS1, wpA_weaken (S := fun w => S w.heap) (S' := fun w => S' w.heap) (fun w h => hsub _ h) fuel _ _ _ hS1 (nxt_put (hn S') hd h1 h2 h3 v u w' hk hu (fun _ => hS') w1' he)⟩
  case h_2 hw =>
    have := wantedS_spec hw h3
    rw [if_neg (by rw [this]; simp)]
    exact ⟨fun _ h => h, nxt_put (hn S) hd h1 h2 h3 undef undef w h (.inr rfl) (fun _ => hS) w1 h4⟩
theorem shR_sound (hs : Region.noSelect ops = true) : ∀ (t : OT) (listed : Array Bool), t.even = true → okT P ops [] t listed = true → ∀ S, Nxt P n ops S [] Q t.len listed (shR P n ops.toList (fun σ w => Q .normal σ w) t S)
  | .done, listed, _, ho => fun S σ w h hS a w1 h1 h2 h3 h4 => ⟨by simpa [okT] using ho, h1, h2, σ, w, h3, h4, h⟩
  | .step i 0 t, listed, he, ho => fun S σ w h hS a w1 h1 h2 h3 h4 => by
    simp only [okT, Bool.and_eq_true] at ho
    exact shStep_sound (m := 0) (k := shR P n ops.toList (fun σ w => Q .normal σ w) t S) hs ho.1 h hS (shR_sound hs t _ he ho.2 S) h1 h2 h3 h4
  | .step i 1 t, listed, he, ho => fun S σ w h hS a w1 h1 h2 h3 h4 => by
    simp only [okT, Bool.and_eq_true] at ho
    exact shStep_sound (m := 1) (k := shR P n ops.toList (fun σ w => Q .normal σ w) t S) hs ho.1 h hS (shR_sound hs t _ he ho.2 S) h1 h2 h3 h4
  | .step i 2 t, listed, he, ho => fun S σ w h hS a w1 h1 h2 h3 h4 => by
    simp only [okT, okStep, Bool.and_eq_true, beq_iff_eq] at ho
    obtain ⟨⟨hr, _⟩, ho2⟩ := ho
    refine ⟨fun h0 => (by rw [hr] at h0; cases h0), fun j hj => ?_⟩
    rw [hr] at hj
    obtain rfl : j = i := by simpa using hj
    exact shStepR_op h (hS (by simp)) (fun S' => shR_sound hs t _ he ho2 S') h1 h2 h3 h4
  | .step i (m + 3) t, listed, he, ho => fun S σ w h hS a w1 h1 h2 h3 h4 => by
    simp [okT, okStep] at ho
  | .fork i t j u, listed, he, ho => fun S σ w h hS a w1 h1 h2 h3 h4 => by
    simp only [okT, Bool.and_eq_true, beq_iff_eq, Bool.not_eq_true'] at ho
    obtain ⟨⟨hr, hi, hj⟩, ho1, ho2⟩ := ho
    simp only [OT.even, Bool.and_eq_true] at he
    obtain ⟨e1, e2, e3⟩ := he
    have e3 : t.len = u.len := Nat.eq_of_beq_eq_true e3
    have hm : ∀ x, x ∈ Region.ready .any ops listed ↔ x = i ∨ x = j := fun x => by rw [hr]; simp
    refine ⟨fun h0 => (by rw [hr] at h0; cases h0), fun x hx => ?_⟩
    rcases (hm x).1 hx with rfl | rfl
    · exact shStepR_op h.1 (hS (by simp)) (fun S' => shR_sound hs t _ e1 ho1 S') h1 h2 h3 h4
    · have := shStepR_op (Q := Q) h.2 (hS (by simp)) (fun S' => shR_sound hs u _ e2 ho2 S') h1 h2 h3 h4
      rw [← e3] at this
      exact this
end
theorem J_heldR (t : OT) {P : Program} {n : Nat} {id : Nat} {ops : Array Oper} {Q : Exit → Fr → World → Prop} {σ : Fr} {w : World} (hd : heldOkT P ops [] t = true)
    (h : ∃ S : Array Obj → Prop, S w.heap ∧ shR P n ops.toList (fun σ w => Q .normal σ w) t S σ w) : J P n (.region id ops true) Q σ w := by
  simp only [heldOkT, Bool.and_eq_true] at hd
  obtain ⟨⟨⟨h1, h2⟩, h3, h5⟩, h4⟩ := hd
  obtain ⟨S, hS, h⟩ := h
  intro a w1 k1 k2 k3 k4
  have hl : t.len = ops.size := Nat.eq_of_beq_eq_true h4
  have hw : Eqv { w1 with drawn := w1.drawn + 1 } w := ⟨k4.heap, k4.tape, k4.os, k4.output⟩
  have key := shR_sound (Q := Q) h2 t (Array.replicate ops.size false) h5 h3 S σ w h (fun _ => hS) a _ k1 k2 k3 hw
  rw [hl] at key
  have r := wp_region_any (id := id) (Q := QN n Q) h1 (wpAny_of_A _ _ _ _ key)
  exact wp_mono r fun e a' w' hq => by
    cases e with
    | normal => exact hq
    | _ => exact hq.elim

/-! ### 13. A call of a function value that is not known where it is called -/
def callG (P : Program) (g : FuncId) (X : Prop) : Prop :=
  match callable P g with
  | true => X
  | false => False
theorem callG_intro {P : Program} {g : FuncId} {X : Prop} (hg : callable P g = true) (h : X) : callG P g X := by
  unfold callG
  rw [hg]
  exact h

end Go.Proofs.YtklmaeefnmcmlaaDoor.Sh
