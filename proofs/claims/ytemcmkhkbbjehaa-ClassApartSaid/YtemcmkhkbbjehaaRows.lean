/-
  No cell of these rows narrows 'for every input' (looked for: loops, veiled, ifaces, maps, wideKeys, modest, calm, conditions, laid).
  DERIVED. THE GIVEN ROWS OF THIS SEAT. 7 by the template 'for every input the law returns true; each argument reads behind the call as it read before'; 0 by the template 'total and deterministic' (their statements: YtemcmkhkbbjehaaTotals.lean).
  GIVEN WITH THE SEED: the statements are not yours to turn. If you find one false, say at which input.
  Laid BY PROGRAM, IN A SANDBOX (cutbox-rows.mjs): the forced cells as the released guide's own fill.sh prints them over the translation 246b3de15927d28b… (all of the seat's roots in one cut). By AI agents, Wed Nov 11 2026. No macro, syntax, notation, axiom, sorry.
-/
import Derived.Test.YtemcmkhkbbjehaaChecked
import GoSem.Claim
import GoSem.ClaimJoined
import GoSem.ClaimMapViews
import Derived.JoinedTies
import Derived.KernelRfl
namespace Go.Proofs.Ytemcmkhkbbjehaa
/- THE CELL 'sum', in the pinned program and in every row, IS THE sha256 OF THE DUMP (.gsa) THAT YtemcmkhkbbjehaaProg.lean LOADS. Nothing in Lean hashes anything: it is a label: what it is worth is what the hold of that sum in a sandbox is worth. -/
noncomputable def Try.pinned : Pinned := { name := "ytemcmkhkbbjehaa", sum := "246b3de15927d28b763abfbee0ee03949f2130b2e098a454fd081c4f96547e4c", checked := Try.checked }
namespace Rows
def none {H : Type} : Left H := { results := [], args := [] }

/-- 'hayloftlaw06.ClassOf': WHATEVER THE INPUT: true; the input reads as it did. -/
def classOfSpec : ChangeSpec := { name := "classOf", fn := fun _ => fun
  | [d] => { results := [.lit (.bool true)], args := [d] }
  | _ => none }
def classOfRow : OpenClaim := { program := "ytemcmkhkbbjehaa", sum := "246b3de15927d28b763abfbee0ee03949f2130b2e098a454fd081c4f96547e4c", func := "hayloft/hayloftlaw06.ClassOf", spec := "classOf", apart := false }
def ClassOfSaid : Prop := classOfRow.holds Try.pinned (OpenSpec.ofChange classOfSpec)

/-- ITS FALSE NEIGHBOUR: 'it returns false'. Refute it at one input. -/
def classOfWrong : ChangeSpec := { name := "classOf", fn := fun _ => fun
  | [d] => { results := [.lit (.bool false)], args := [d] }
  | _ => none }
def ClassOfWrongFalsely : Prop := classOfRow.holds Try.pinned (OpenSpec.ofChange classOfWrong)

/-- 'hayloftlaw06.ClassTells': WHATEVER THE INPUT: true; the input reads as it did. -/
def classTellsSpec : ChangeSpec := { name := "classTells", fn := fun _ => fun
  | [d1, d2] => { results := [.lit (.bool true)], args := [d1, d2] }
  | _ => none }
def classTellsRow : OpenClaim := { program := "ytemcmkhkbbjehaa", sum := "246b3de15927d28b763abfbee0ee03949f2130b2e098a454fd081c4f96547e4c", func := "hayloft/hayloftlaw06.ClassTells", spec := "classTells", apart := false }
def ClassTellsSaid : Prop := classTellsRow.holds Try.pinned (OpenSpec.ofChange classTellsSpec)

/-- ITS FALSE NEIGHBOUR: 'it returns false'. Refute it at one input. -/
def classTellsWrong : ChangeSpec := { name := "classTells", fn := fun _ => fun
  | [d1, d2] => { results := [.lit (.bool false)], args := [d1, d2] }
  | _ => none }
def ClassTellsWrongFalsely : Prop := classTellsRow.holds Try.pinned (OpenSpec.ofChange classTellsWrong)

/-- 'hayloftlaw06.ClassNeeds': WHATEVER THE INPUT: true; the input reads as it did. -/
def classNeedsSpec : ChangeSpec := { name := "classNeeds", fn := fun _ => fun
  | [d] => { results := [.lit (.bool true)], args := [d] }
  | _ => none }
def classNeedsRow : OpenClaim := { program := "ytemcmkhkbbjehaa", sum := "246b3de15927d28b763abfbee0ee03949f2130b2e098a454fd081c4f96547e4c", func := "hayloft/hayloftlaw06.ClassNeeds", spec := "classNeeds", apart := false }
def ClassNeedsSaid : Prop := classNeedsRow.holds Try.pinned (OpenSpec.ofChange classNeedsSpec)

/-- ITS FALSE NEIGHBOUR: 'it returns false'. Refute it at one input. -/
def classNeedsWrong : ChangeSpec := { name := "classNeeds", fn := fun _ => fun
  | [d] => { results := [.lit (.bool false)], args := [d] }
  | _ => none }
def ClassNeedsWrongFalsely : Prop := classNeedsRow.holds Try.pinned (OpenSpec.ofChange classNeedsWrong)

/-- 'hayloftlaw06.ClassFits': WHATEVER THE INPUT: true; the input reads as it did. -/
def classFitsSpec : ChangeSpec := { name := "classFits", fn := fun _ => fun
  | [d] => { results := [.lit (.bool true)], args := [d] }
  | _ => none }
def classFitsRow : OpenClaim := { program := "ytemcmkhkbbjehaa", sum := "246b3de15927d28b763abfbee0ee03949f2130b2e098a454fd081c4f96547e4c", func := "hayloft/hayloftlaw06.ClassFits", spec := "classFits", apart := false }
def ClassFitsSaid : Prop := classFitsRow.holds Try.pinned (OpenSpec.ofChange classFitsSpec)

/-- ITS FALSE NEIGHBOUR: 'it returns false'. Refute it at one input. -/
def classFitsWrong : ChangeSpec := { name := "classFits", fn := fun _ => fun
  | [d] => { results := [.lit (.bool false)], args := [d] }
  | _ => none }
def ClassFitsWrongFalsely : Prop := classFitsRow.holds Try.pinned (OpenSpec.ofChange classFitsWrong)

/-- 'hayloftlaw06.ClassRises': WHATEVER THE INPUT: true; the input reads as it did. -/
def classRisesSpec : ChangeSpec := { name := "classRises", fn := fun _ => fun
  | [d1, d2] => { results := [.lit (.bool true)], args := [d1, d2] }
  | _ => none }
def classRisesRow : OpenClaim := { program := "ytemcmkhkbbjehaa", sum := "246b3de15927d28b763abfbee0ee03949f2130b2e098a454fd081c4f96547e4c", func := "hayloft/hayloftlaw06.ClassRises", spec := "classRises", apart := false }
def ClassRisesSaid : Prop := classRisesRow.holds Try.pinned (OpenSpec.ofChange classRisesSpec)

/-- ITS FALSE NEIGHBOUR: 'it returns false'. Refute it at one input. -/
def classRisesWrong : ChangeSpec := { name := "classRises", fn := fun _ => fun
  | [d1, d2] => { results := [.lit (.bool false)], args := [d1, d2] }
  | _ => none }
def ClassRisesWrongFalsely : Prop := classRisesRow.holds Try.pinned (OpenSpec.ofChange classRisesWrong)

/-- 'hayloftlaw06.ClassMore': WHATEVER THE INPUT: true; the input reads as it did. -/
def classMoreSpec : ChangeSpec := { name := "classMore", fn := fun _ => fun
  | [d1, d2] => { results := [.lit (.bool true)], args := [d1, d2] }
  | _ => none }
def classMoreRow : OpenClaim := { program := "ytemcmkhkbbjehaa", sum := "246b3de15927d28b763abfbee0ee03949f2130b2e098a454fd081c4f96547e4c", func := "hayloft/hayloftlaw06.ClassMore", spec := "classMore", apart := false }
def ClassMoreSaid : Prop := classMoreRow.holds Try.pinned (OpenSpec.ofChange classMoreSpec)

/-- ITS FALSE NEIGHBOUR: 'it returns false'. Refute it at one input. -/
def classMoreWrong : ChangeSpec := { name := "classMore", fn := fun _ => fun
  | [d1, d2] => { results := [.lit (.bool false)], args := [d1, d2] }
  | _ => none }
def ClassMoreWrongFalsely : Prop := classMoreRow.holds Try.pinned (OpenSpec.ofChange classMoreWrong)

/-- 'hayloftlaw06.ClassApart': WHATEVER THE INPUT: true; the input reads as it did. -/
def classApartSpec : ChangeSpec := { name := "classApart", fn := fun _ => fun
  | [d1, d2] => { results := [.lit (.bool true)], args := [d1, d2] }
  | _ => none }
def classApartRow : OpenClaim := { program := "ytemcmkhkbbjehaa", sum := "246b3de15927d28b763abfbee0ee03949f2130b2e098a454fd081c4f96547e4c", func := "hayloft/hayloftlaw06.ClassApart", spec := "classApart", apart := false }
def ClassApartSaid : Prop := classApartRow.holds Try.pinned (OpenSpec.ofChange classApartSpec)

/-- ITS FALSE NEIGHBOUR: 'it returns false'. Refute it at one input. -/
def classApartWrong : ChangeSpec := { name := "classApart", fn := fun _ => fun
  | [d1, d2] => { results := [.lit (.bool false)], args := [d1, d2] }
  | _ => none }
def ClassApartWrongFalsely : Prop := classApartRow.holds Try.pinned (OpenSpec.ofChange classApartWrong)

/- THE SECOND FORM. 'bulk': how many values and letters a reading holds, each counted each time it is reached (what is shared counts as often as it is met; a slice's spare places count too). A statement '..UptoSaid' is the law's where the arguments, and the package variables that the reading takes, are together of bulk at most 1048576: NARROWER than '..Said'. Prove '..Said' where nothing that the law and all that it calls make is longer than what came in: it says more and counts as full. Else prove '..UptoSaid'. A law counts once. -/
mutual
def uptoBulk {H : Type} : DataW H → Nat
  | .lit (.string bytes) => bytes.length + 1
  | .lit _ => 1
  | .nil => 1
  | .ptr d => uptoBulk d + 1
  | .slice elems spare => uptoBulkAll elems + uptoBulkAll spare + 1
  | .agg parts => uptoBulkAll parts + 1
  | .iface _ d => uptoBulk d + 1
  | .map entries => uptoBulkEntries entries + 1
  | .held _ => 1
def uptoBulkAll {H : Type} : List (DataW H) → Nat
  | [] => 0
  | d :: r => uptoBulk d + uptoBulkAll r
def uptoBulkEntries {H : Type} : List (Lit × DataW H) → Nat
  | [] => 0
  | x :: r => uptoBulkEntry x + uptoBulkEntries r
def uptoBulkEntry {H : Type} : Lit × DataW H → Nat
  | (.string bytes, d) => bytes.length + uptoBulk d + 1
  | (_, d) => uptoBulk d + 1
 end
def uptoSmall : (H : Type) → List (DataW H) → Bool := fun _ ds => decide (uptoBulkAll ds ≤ 1048576)
def OpenSpec.upto (s : _root_.Go.ChangeSpec) : _root_.Go.OpenSpec := { _root_.Go.OpenSpec.ofChange s with cond := some uptoSmall }

/-- 'hayloftlaw06.ClassOf', WHERE WHAT IT READS IS OF BULK AT MOST 1048576: true; the input reads as it did. -/
def classOfUptoRow : OpenClaim := { program := "ytemcmkhkbbjehaa", sum := "246b3de15927d28b763abfbee0ee03949f2130b2e098a454fd081c4f96547e4c", func := "hayloft/hayloftlaw06.ClassOf", spec := "classOf", apart := false, narrowed := true }
def ClassOfUptoSaid : Prop := classOfUptoRow.holds Try.pinned (OpenSpec.upto classOfSpec)

/-- 'hayloftlaw06.ClassTells', WHERE WHAT IT READS IS OF BULK AT MOST 1048576: true; the input reads as it did. -/
def classTellsUptoRow : OpenClaim := { program := "ytemcmkhkbbjehaa", sum := "246b3de15927d28b763abfbee0ee03949f2130b2e098a454fd081c4f96547e4c", func := "hayloft/hayloftlaw06.ClassTells", spec := "classTells", apart := false, narrowed := true }
def ClassTellsUptoSaid : Prop := classTellsUptoRow.holds Try.pinned (OpenSpec.upto classTellsSpec)

/-- 'hayloftlaw06.ClassNeeds', WHERE WHAT IT READS IS OF BULK AT MOST 1048576: true; the input reads as it did. -/
def classNeedsUptoRow : OpenClaim := { program := "ytemcmkhkbbjehaa", sum := "246b3de15927d28b763abfbee0ee03949f2130b2e098a454fd081c4f96547e4c", func := "hayloft/hayloftlaw06.ClassNeeds", spec := "classNeeds", apart := false, narrowed := true }
def ClassNeedsUptoSaid : Prop := classNeedsUptoRow.holds Try.pinned (OpenSpec.upto classNeedsSpec)

/-- 'hayloftlaw06.ClassFits', WHERE WHAT IT READS IS OF BULK AT MOST 1048576: true; the input reads as it did. -/
def classFitsUptoRow : OpenClaim := { program := "ytemcmkhkbbjehaa", sum := "246b3de15927d28b763abfbee0ee03949f2130b2e098a454fd081c4f96547e4c", func := "hayloft/hayloftlaw06.ClassFits", spec := "classFits", apart := false, narrowed := true }
def ClassFitsUptoSaid : Prop := classFitsUptoRow.holds Try.pinned (OpenSpec.upto classFitsSpec)

/-- 'hayloftlaw06.ClassRises', WHERE WHAT IT READS IS OF BULK AT MOST 1048576: true; the input reads as it did. -/
def classRisesUptoRow : OpenClaim := { program := "ytemcmkhkbbjehaa", sum := "246b3de15927d28b763abfbee0ee03949f2130b2e098a454fd081c4f96547e4c", func := "hayloft/hayloftlaw06.ClassRises", spec := "classRises", apart := false, narrowed := true }
def ClassRisesUptoSaid : Prop := classRisesUptoRow.holds Try.pinned (OpenSpec.upto classRisesSpec)

/-- 'hayloftlaw06.ClassMore', WHERE WHAT IT READS IS OF BULK AT MOST 1048576: true; the input reads as it did. -/
def classMoreUptoRow : OpenClaim := { program := "ytemcmkhkbbjehaa", sum := "246b3de15927d28b763abfbee0ee03949f2130b2e098a454fd081c4f96547e4c", func := "hayloft/hayloftlaw06.ClassMore", spec := "classMore", apart := false, narrowed := true }
def ClassMoreUptoSaid : Prop := classMoreUptoRow.holds Try.pinned (OpenSpec.upto classMoreSpec)

/-- 'hayloftlaw06.ClassApart', WHERE WHAT IT READS IS OF BULK AT MOST 1048576: true; the input reads as it did. -/
def classApartUptoRow : OpenClaim := { program := "ytemcmkhkbbjehaa", sum := "246b3de15927d28b763abfbee0ee03949f2130b2e098a454fd081c4f96547e4c", func := "hayloft/hayloftlaw06.ClassApart", spec := "classApart", apart := false, narrowed := true }
def ClassApartUptoSaid : Prop := classApartUptoRow.holds Try.pinned (OpenSpec.upto classApartSpec)

end Rows
end Go.Proofs.Ytemcmkhkbbjehaa
