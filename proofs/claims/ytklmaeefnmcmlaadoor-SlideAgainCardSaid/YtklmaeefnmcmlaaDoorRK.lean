/-
  Parts of the proofs of this seat: what the functions compute. No condition beyond what each theorem states.
-/
import Derived.Test.YtklmaeefnmcmlaaDoorSh
import Derived.WalkKit
import Derived.ProofKit
import Derived.OpenShut
import Derived.ShutString
import Derived.ChangeOld
import Derived.Below
import Derived.SizedLaws
import Derived.ChangeSlices
import Derived.Deep.Slices
import Derived.DataReads
set_option linter.unusedVariables false
set_option linter.unusedSimpArgs false
set_option maxRecDepth 100000
namespace Go.Proofs.YtklmaeefnmcmlaaDoor.R
open Go Go.RowKit Go.Proofs.YtklmaeefnmcmlaaDoor Go.Proofs.YtklmaeefnmcmlaaDoor.Sh

/-! ### rows: what is told of an argument -/
open Go.ChangeShapes Go.WideShapes Go.ChangeAt
def IsRow (k : IntKind) (w : World) (a : Option Addr) (len cap : Nat) (zs : List Int) : Prop :=
  (a = none ∧ len = 0 ∧ cap = 0 ∧ zs = []) ∨
  ∃ x, a = some x ∧ len ≤ cap ∧ cap ≤ maxLen ∧ zs.length = cap ∧ (∀ i, i < zs.length → w.cell? (x.add i) = some (.int k (zs.getD i 0))) ∧ ∀ n ∈ zs, (Lit.int k n).wf = true
theorem IsRow.cs {k : IntKind} {w : World} {a : Option Addr} {len cap : Nat} {zs : List Int} (h : IsRow k w a len cap zs) :
    Cs w a ((zs.take len).map fun x => .int k x) ∧ (zs.take len).length = len ∧ ∀ n ∈ zs.take len, (Lit.int k n).wf = true := by
  rcases h with ⟨rfl, rfl, rfl, rfl⟩ | ⟨x, rfl, hl, hm, hz, hc, hw⟩
  · exact ⟨fun j v hj => by simp at hj, rfl, fun n hn => by simp at hn⟩
  · refine ⟨fun j v hj => ⟨x, rfl, ?_⟩, by rw [List.length_take]; omega, fun n hn => hw n (List.mem_of_mem_take hn)⟩
    rw [List.getElem?_map, Option.map_eq_some_iff] at hj
    obtain ⟨y, hy, rfl⟩ := hj
    obtain ⟨hjl, rfl⟩ := List.getElem?_eq_some_iff.1 hy
    rw [List.length_take] at hjl
    rw [List.getElem_take, hc j (by omega), List.getD_eq_getElem?_getD, List.getElem?_eq_getElem (by omega)]
    rfl
theorem IsRow.le {k : IntKind} {w : World} {a : Option Addr} {len cap : Nat} {zs : List Int} (h : IsRow k w a len cap zs) : len ≤ cap := by
  rcases h with ⟨_, rfl, rfl, _⟩ | ⟨_, _, hl, _⟩
  · exact Nat.le_refl _
  · exact hl
/-- A row's slice of whole numbers is no longer than its weight allows. -/
theorem sized_ints {H : Type} {enc : TypeId × Value → H} {P : Program} {W : World} {base : Nat} {spare : Nat → Bool} {held : Bool} {t e : TypeId} {k : IntKind} {a : Option Addr} {len cap : Nat} {d : DataW H} {ps : List MemPlace} {ts : List TypeId} {ds : List (DataW H)} {j : Nat}
    (hsz : (DataW.weightsEach P ts ds).all (· ≤ reachBytes) = true) (ht : ts[j]? = some t) (hd : ds[j]? = some d) (hu : P.underlying t = some (.slice e)) (he : P.underlying e = some (.int k)) (hc : P.cellsOf e = 1) {B : Nat} (hB : P.bytesOf e = B)
    (h : DataW.Trod enc P W base spare held t (.slice a len cap) d ps) : len * B ≤ 140737488351232 := by
  obtain ⟨fuel, hf⟩ := h
  rcases open_ints hu he hc hf with ⟨hcs, _⟩ | ⟨x, l, c, zs, hcs, _, hl, _, hz, hx, _, _⟩
  · simp [Value.cells] at hcs
    obtain ⟨rfl, rfl, rfl⟩ := hcs
    simp
  · simp [Value.cells] at hcs
    obtain ⟨rfl, rfl, rfl⟩ := hcs
    obtain ⟨hx, _⟩ := Prod.mk.inj hx
    subst hx
    have z := sized_slice hsz ht hd hu
    rw [hB] at z
    have hl2 : len ≤ zs.length := by
      rw [hz]
      split
      · exact hl
      · exact Nat.le_refl _
    have h1 : (lits (H := H) k (zs.take len)).length + (lits (H := H) k (zs.drop len)).length = zs.length := by
      simp [lits]
      omega
    rw [h1] at z
    exact Nat.le_trans (Nat.mul_le_mul_right _ hl2) z
theorem isRow_of {H : Type} {enc : TypeId × Value → H} {P : Program} {W : World} {base : Nat} {held : Bool} {t e : TypeId} {k : IntKind} {a : Option Addr} {len cap : Nat} {d : DataW H} {ps : List MemPlace}
    (hu : P.underlying t = some (.slice e)) (he : P.underlying e = some (.int k)) (hc : P.cellsOf e = 1) (h : DataW.Trod enc P W base (fun _ => true) held t (.slice a len cap) d ps) : ∃ zs, IsRow k W a len cap zs := by
  obtain ⟨fuel, hf⟩ := h
  rcases open_ints hu he hc hf with ⟨hcs, _⟩ | ⟨x, l, c, zs, hcs, _, hl, hm, hz, _, hcell, hwz⟩
  · simp [Value.cells] at hcs
    obtain ⟨rfl, rfl, rfl⟩ := hcs
    exact ⟨[], .inl ⟨rfl, rfl, rfl, rfl⟩⟩
  · simp [Value.cells] at hcs
    obtain ⟨rfl, rfl, rfl⟩ := hcs
    exact ⟨zs, .inr ⟨_, rfl, hl, hm, by simpa using hz, hcell, hwz⟩⟩
theorem CallsE.run {P : Program} {f : FuncId} {args : Array Value} {w : World} (h : CallsE P f args w (fun v w' => v = .bool true ∧ Below w.heap.size w w')) :
    Calls P f args w (fun e w' => e = .returned (.bool true) ∧ Below w.heap.size w w') := by
  refine (h w (Eqv.refl w)).mono ?_
  rintro e w1 ⟨v, w', rfl, h1, rfl, h2⟩
  exact ⟨rfl, Eqv.below h2 h1⟩

/-! ### what is told of an argument of any plain type -/
def RdInt (k : IntKind) (w : World) (cs : List Value) : Prop := ∃ n, cs = [.int k n] ∧ (Lit.int k n).wf = true
def RdBool (w : World) (cs : List Value) : Prop := ∃ b, cs = [.bool b]
def RdStr (w : World) (cs : List Value) : Prop := ∃ s : ByteArray, cs = [.string s] ∧ s.size ≤ 140737488351232
/-- A slice: B bytes and m cells an element. -/
def RdSlice (B m : Nat) (Q : World → List Value → Prop) (w : World) (cs : List Value) : Prop :=
  ∃ A n c, ∃ rows : List (List Value), cs = [.slice A n c] ∧ n ≤ c ∧ n * B ≤ 140737488351232 ∧ rows.length = n ∧ Cs w A rows.flatten ∧ ∀ r ∈ rows, r.length = m ∧ Q w r
def RdAgg : List (Nat × (World → List Value → Prop)) → World → List Value → Prop
  | [], _, cs => cs = []
  | (n, Q) :: qs, w, cs => ∃ a b, cs = a ++ b ∧ a.length = n ∧ Q w a ∧ RdAgg qs w b
section
variable {H : Type} {enc : TypeId × Value → H} {P : Program} {W : World}
def Opens (enc : TypeId × Value → H) (P : Program) (W : World) (t : TypeId) (Q : World → List Value → Prop) : Prop :=
  ∀ fuel cs x, DataW.trod enc P W 0 (fun _ => true) true fuel t cs = some x → (∀ n ∈ DataW.weights P t x.1, n ≤ reachBytes) → Q W cs
theorem opens_int {t : TypeId} {k : IntKind} (ht : P.underlying t = some (.int k)) : Opens enc P W t (RdInt k) := fun fuel cs x h _ => by
  obtain ⟨n, h1, _, h2⟩ := DataW.trod_int ht h
  exact ⟨n, h1, h2⟩
theorem opens_bool {t : TypeId} (ht : P.underlying t = some .bool) : Opens enc P W t RdBool := fun fuel cs x h _ => by
  obtain ⟨b, h1, _⟩ := DataW.trod_bool ht h
  exact ⟨b, h1⟩
theorem opens_str {t : TypeId} (ht : P.underlying t = some .string) : Opens enc P W t RdStr := fun fuel cs x h hw => by
  obtain ⟨s, h1, rfl, _⟩ := DataW.trod_string ht h
  refine ⟨s, h1, ?_⟩
  have := hw s.data.toList.length (by simp [DataW.weights])
  simpa [reachBytes] using this
theorem weightsAll_mem {P : Program} {e : TypeId} {d : DataW H} : ∀ {l : List (DataW H)}, d ∈ l → ∀ n ∈ d.weights P e, n ∈ DataW.weightsAll P e l
  | x :: l, h, n, hn => by
    simp only [DataW.weightsAll, List.mem_append]
    rcases List.mem_cons.1 h with rfl | h
    · exact .inl hn
    · exact .inr (weightsAll_mem h n hn)
theorem opens_slice {t e : TypeId} {B m : Nat} {Q : World → List Value → Prop} (ht : P.underlying t = some (.slice e)) (hB : P.bytesOf e = B) (hm : P.cellsOf e = m) (he : Opens enc P W e Q) : Opens enc P W t (RdSlice B m Q) := fun fuel cs x h hw => by
  rcases Deep.open_slice ht h with ⟨rfl, _⟩ | ⟨a, len, cap, m', n, D, Pl, rfl, _, hl, hm', hmm, rfl, hx⟩
  · exact ⟨none, 0, 0, [], rfl, Nat.le_refl _, by simp, rfl, Cs.nil _ _, by simp⟩
  have hmm' : m' = cap := by simpa using hmm
  subst hmm'
  obtain ⟨R, hR⟩ := Deep.choose_lt (α := List Value) (p := fun i r => W.cells? 0 (a.add (i * P.cellsOf e)) (P.cellsOf e) = some r ∧ DataW.trod enc P W 0 (fun _ => true) true n e r = some (D i, Pl i)) (fun i hi => hx i hi)
  have hlen : ∀ i, i < len → (R i).length = m := fun i hi => by
    have := (World.cells?_some (hR i (by omega)).1).2.1
    rw [this, hm]
  have hmem : ∀ i, i < len → D i ∈ (List.range len).map D := fun i hi => List.mem_map.2 ⟨i, List.mem_range.2 hi, rfl⟩
  have hB2 : len * B ≤ 140737488351232 := by
    have h1 := hw (((List.range len).map D).length * B + ((List.range (m' - len)).map fun j => D (len + j)).length * B) (by
      simp only [DataW.weights, ht]
      rw [← Nat.add_mul, hB]
      exact List.mem_cons_self)
    rw [List.length_map, List.length_range] at h1
    unfold reachBytes at h1
    omega
  refine ⟨some a, len, m', (List.range len).map R, rfl, hl, hB2, by simp, ?_, fun r hr => ?_⟩
  · have hcs : ∀ k, k ≤ len → ∀ j v, ((List.range k).map R).flatten[j]? = some v → W.cell? (a.add j) = some v := by
      intro k
      induction k with
      | zero => intro _ j v hj; simp at hj
      | succ k ih =>
        intro hk j v hj
        have hfl : ∀ k, k ≤ len → ((List.range k).map R).flatten.length = k * m := by
          intro k
          induction k with
          | zero => simp
          | succ k ih2 =>
            intro hk
            rw [List.range_succ, List.map_append, List.flatten_append, List.length_append, ih2 (by omega)]
            simp [hlen k (by omega), Nat.add_mul]
        rw [List.range_succ, List.map_append, List.flatten_append] at hj
        rcases Nat.lt_or_ge j (k * m) with hjk | hjk
        · rw [List.getElem?_append_left (by rw [hfl k (by omega)]; exact hjk)] at hj
          exact ih (by omega) j v hj
        · rw [List.getElem?_append_right (by rw [hfl k (by omega)]; exact hjk), hfl k (by omega)] at hj
          simp only [List.map_cons, List.map_nil, List.flatten_cons, List.flatten_nil, List.append_nil] at hj
          have hjl := (List.getElem?_eq_some_iff.1 hj).1
          rw [hlen k (by omega)] at hjl
          have hc := (World.cells?_some (hR k (by omega)).1).2.2 (j - k * m) (by omega)
          rw [hm, add_add, hj] at hc
          rw [← hc]
          congr 2
          omega
    exact fun j v hj => ⟨a, rfl, hcs len (Nat.le_refl _) j v hj⟩
  · obtain ⟨i, hi, rfl⟩ := List.mem_map.1 hr
    have hi' := List.mem_range.1 hi
    refine ⟨hlen i hi', he _ _ _ (hR i (by omega)).2 fun n hn => hw n ?_⟩
    simp only [DataW.weights, ht, List.mem_cons, List.mem_append]
    exact .inr (.inl (weightsAll_mem (hmem i hi') n hn))
def FitsAgg (enc : TypeId × Value → H) (P : Program) (W : World) : List Field → List (Nat × (World → List Value → Prop)) → Nat → Nat → Prop
  | [], [], off, total => off = total
  | f :: fs, (n, Q) :: qs, off, total => f.offset = off ∧ P.cellsOf f.type = n ∧ Opens enc P W f.type Q ∧ FitsAgg enc P W fs qs (off + n) total
  | _, _, _, _ => False
theorem FitsAgg.le : ∀ {fs : List Field} {qs : List (Nat × (World → List Value → Prop))} {off total : Nat}, FitsAgg enc P W fs qs off total → off ≤ total
  | [], [], _, _, h => Nat.le_of_eq h
  | f :: fs, (n, Q) :: qs, off, total, h => by have := FitsAgg.le h.2.2.2; omega
theorem opens_fields {n : Nat} {cs : List Value} : ∀ {fs : List Field} {qs : List (Nat × (World → List Value → Prop))} {off total : Nat} {xs : List (DataW H × List MemPlace)}, FitsAgg enc P W fs qs off total → cs.length = total → xs.length = fs.length →
    (∀ (i : Nat) (f : Field), fs[i]? = some f → DataW.trod enc P W 0 (fun _ => true) true n f.type ((cs.drop f.offset).take (P.cellsOf f.type)) = xs[i]?) →
    (∀ k ∈ DataW.weightsEach P (fs.map (·.type)) (xs.map (·.1)), k ≤ reachBytes) → RdAgg qs W (cs.drop off)
  | [], [], off, total, xs, hf, hl, hx, h, hw => by
    have : off = total := hf
    show cs.drop off = []
    rw [List.drop_eq_nil_iff]; omega
  | f :: fs, (m, Q) :: qs, off, total, [], hf, hl, hx, h, hw => by simp at hx
  | f :: fs, (m, Q) :: qs, off, total, x :: xs, hf, hl, hx, h, hw => by
    obtain ⟨ho, hm, hQ, hrest⟩ := hf
    have hle := hrest.le
    have h0 := h 0 f rfl
    rw [ho, hm] at h0
    have ih := opens_fields (xs := xs) hrest hl (by simpa using hx) (fun i g hg => by simpa using h (i + 1) g (by simpa using hg)) (fun k hk => hw k (by
      simp only [List.map_cons, DataW.weightsEach, List.mem_append]; exact .inr hk))
    refine ⟨(cs.drop off).take m, cs.drop (off + m), by rw [← List.drop_drop, List.take_append_drop], by rw [List.length_take, List.length_drop]; omega, hQ _ _ x (by simpa using h0) (fun k hk => hw k (by
      simp only [List.map_cons, DataW.weightsEach, List.mem_append]; exact .inl hk)), ih⟩
  | [], _ :: _, _, _, _, hf, _, _, _, _ => hf.elim
  | _ :: _, [], _, _, _, hf, _, _, _, _ => hf.elim
theorem opens_struct {t : TypeId} {fs : Array Field} {qs : List (Nat × (World → List Value → Prop))} (ht : P.underlying t = some (.struct fs)) (hf : FitsAgg enc P W fs.toList qs 0 (P.cellsOf t)) : Opens enc P W t (RdAgg qs) := fun fuel cs x h hw => by
  obtain ⟨xs, n, _, rfl, hl, hlen, hx⟩ := DataW.trod_struct ht h
  have := opens_fields (xs := xs) hf hl (by simpa using hlen) (fun i f hi => hx i f (by simpa using hi)) (fun k hk => hw k (by simpa [DataW.weights, ht] using hk))
  simpa using this
theorem opens_array {t e : TypeId} {k m : Nat} {Q : World → List Value → Prop} (ht : P.underlying t = some (.array k e)) (hm : P.cellsOf e = m) (hk : P.cellsOf t = k * m) (he : Opens enc P W e Q) : Opens enc P W t (RdAgg (List.replicate k (m, Q))) := fun fuel cs x h hw => by
  obtain ⟨xs, n, _, rfl, hl, hlen, hx⟩ := DataW.trod_array ht h
  have hw' : ∀ y ∈ xs, ∀ n ∈ DataW.weights P e y.1, n ≤ reachBytes := fun y hy n hn => hw n (by
    simp only [DataW.weights, ht]
    exact weightsAll_mem (List.mem_map.2 ⟨y, hy, rfl⟩) n hn)
  have key : ∀ j, j ≤ k → RdAgg (List.replicate j (m, Q)) W (cs.drop ((k - j) * m)) := by
    intro j
    induction j with
    | zero =>
      intro _
      show cs.drop ((k - 0) * m) = []
      rw [List.drop_eq_nil_iff, hl, hk]; simp
    | succ j ih =>
      intro hj
      have h0 := hx (k - (j + 1)) (by omega)
      have hlt : k - (j + 1) < xs.length := by omega
      rw [hm, List.getElem?_eq_getElem hlt] at h0
      have e1 : (k - (j + 1)) * m + m = (k - j) * m := by
        have : k - j = (k - (j + 1)) + 1 := by omega
        rw [this, Nat.add_mul]; omega
      have hle : (k - j) * m ≤ k * m := Nat.mul_le_mul_right m (by omega)
      refine ⟨(cs.drop ((k - (j + 1)) * m)).take m, cs.drop ((k - (j + 1)) * m + m), by rw [← List.drop_drop, List.take_append_drop], by rw [List.length_take, List.length_drop, hl, hk]; omega, he _ _ _ h0 (hw' _ (List.getElem_mem hlt)), ?_⟩
      rw [e1]
      exact ih (by omega)
  have := key k (Nat.le_refl _)
  simpa using this
theorem opens_val {t : TypeId} {Q : World → List Value → Prop} (ho : Opens enc P W t Q) {v : Value} {d : DataW H} {ps : List MemPlace} (h : DataW.Trod enc P W 0 (fun _ => true) true t v d ps)
    {ts : List TypeId} {ds : List (DataW H)} {j : Nat} (hsz : (DataW.weightsEach P ts ds).all (· ≤ reachBytes) = true) (ht : ts[j]? = some t) (hd : ds[j]? = some d) : Q W v.cells.toList := by
  obtain ⟨fuel, hf⟩ := h
  refine ho fuel _ _ hf fun n hn => ?_
  have := List.all_eq_true.1 hsz _ (DataW.weights_mem_each ht hd n hn)
  simpa using this
theorem okWide_agg {t : TypeId} {r : Reach} {base : Nat} {v : Value} (ht : (∃ fs, P.underlying t = some (.struct fs)) ∨ (∃ n e, P.underlying t = some (.array n e))) (h : Value.okWide P W r base t v) : ∃ cs : List Value, v = .agg ⟨cs⟩ := by
  unfold Value.okWide at h
  rcases ht with ⟨fs, ht⟩ | ⟨n, e, ht⟩ <;> rw [ht] at h
  · obtain ⟨cs, rfl, _⟩ := h
    exact ⟨cs.toList, rfl⟩
  · obtain ⟨cs, rfl, _⟩ := h
    exact ⟨cs.toList, rfl⟩
end

end Go.Proofs.YtklmaeefnmcmlaaDoor.R
