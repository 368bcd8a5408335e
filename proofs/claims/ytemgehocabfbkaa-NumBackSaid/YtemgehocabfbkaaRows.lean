/-
  No cell of these rows narrows 'for every input' (looked for: loops, veiled, ifaces, maps, wideKeys, modest, calm, conditions, laid).
  DERIVED. THE GIVEN ROWS OF THIS SEAT. 7 by the template 'for every input the law returns true; each argument reads behind the call as it read before'; 0 by the template 'total and deterministic' (their statements: YtemgehocabfbkaaTotals.lean).
  GIVEN WITH THE SEED: the statements are not yours to turn. If you find one false, say at which input.
  Laid BY PROGRAM, IN A SANDBOX (cutbox-rows.mjs): the forced cells as the released guide's own fill.sh prints them over the translation 82c06207be5a7774… (all of the seat's roots in one cut). By AI agents, Wed Nov 11 2026. No macro, syntax, notation, axiom, sorry.
-/
import Derived.Test.YtemgehocabfbkaaChecked
import GoSem.Claim
import GoSem.ClaimJoined
import GoSem.ClaimMapViews
import Derived.JoinedTies
import Derived.KernelRfl
namespace Go.Proofs.Ytemgehocabfbkaa
/- THE CELL 'sum', in the pinned program and in every row, IS THE sha256 OF THE DUMP (.gsa) THAT YtemgehocabfbkaaProg.lean LOADS. Nothing in Lean hashes anything: it is a label: what it is worth is what the hold of that sum in a sandbox is worth. -/
noncomputable def Try.pinned : Pinned := { name := "ytemgehocabfbkaa", sum := "82c06207be5a77741d018c1c03b7e6adca83aff281b5b4f54481f4d1ddf2b472", checked := Try.checked }
namespace Rows
def none {H : Type} : Left H := { results := [], args := [] }

/-- 'hayloftlaw01.NumPuts': WHATEVER THE INPUT: true; the input reads as it did. -/
def numPutsSpec : ChangeSpec := { name := "numPuts", fn := fun _ => fun
  | [d1, d2, d3] => { results := [.lit (.bool true)], args := [d1, d2, d3] }
  | _ => none }
def numPutsRow : OpenClaim := { program := "ytemgehocabfbkaa", sum := "82c06207be5a77741d018c1c03b7e6adca83aff281b5b4f54481f4d1ddf2b472", func := "hayloft/hayloftlaw01.NumPuts", spec := "numPuts", apart := false }
def NumPutsSaid : Prop := numPutsRow.holds Try.pinned (OpenSpec.ofChange numPutsSpec)

/-- ITS FALSE NEIGHBOUR: 'it returns false'. Refute it at one input. -/
def numPutsWrong : ChangeSpec := { name := "numPuts", fn := fun _ => fun
  | [d1, d2, d3] => { results := [.lit (.bool false)], args := [d1, d2, d3] }
  | _ => none }
def NumPutsWrongFalsely : Prop := numPutsRow.holds Try.pinned (OpenSpec.ofChange numPutsWrong)

/-- 'hayloftlaw01.NumVars': WHATEVER THE INPUT: true; the input reads as it did. -/
def numVarsSpec : ChangeSpec := { name := "numVars", fn := fun _ => fun
  | [d] => { results := [.lit (.bool true)], args := [d] }
  | _ => none }
def numVarsRow : OpenClaim := { program := "ytemgehocabfbkaa", sum := "82c06207be5a77741d018c1c03b7e6adca83aff281b5b4f54481f4d1ddf2b472", func := "hayloft/hayloftlaw01.NumVars", spec := "numVars", apart := false }
def NumVarsSaid : Prop := numVarsRow.holds Try.pinned (OpenSpec.ofChange numVarsSpec)

/-- ITS FALSE NEIGHBOUR: 'it returns false'. Refute it at one input. -/
def numVarsWrong : ChangeSpec := { name := "numVars", fn := fun _ => fun
  | [d] => { results := [.lit (.bool false)], args := [d] }
  | _ => none }
def NumVarsWrongFalsely : Prop := numVarsRow.holds Try.pinned (OpenSpec.ofChange numVarsWrong)

/-- 'hayloftlaw01.NumOne': WHATEVER THE INPUT: true; the input reads as it did. -/
def numOneSpec : ChangeSpec := { name := "numOne", fn := fun _ => fun
  | [d] => { results := [.lit (.bool true)], args := [d] }
  | _ => none }
def numOneRow : OpenClaim := { program := "ytemgehocabfbkaa", sum := "82c06207be5a77741d018c1c03b7e6adca83aff281b5b4f54481f4d1ddf2b472", func := "hayloft/hayloftlaw01.NumOne", spec := "numOne", apart := false }
def NumOneSaid : Prop := numOneRow.holds Try.pinned (OpenSpec.ofChange numOneSpec)

/-- ITS FALSE NEIGHBOUR: 'it returns false'. Refute it at one input. -/
def numOneWrong : ChangeSpec := { name := "numOne", fn := fun _ => fun
  | [d] => { results := [.lit (.bool false)], args := [d] }
  | _ => none }
def NumOneWrongFalsely : Prop := numOneRow.holds Try.pinned (OpenSpec.ofChange numOneWrong)

/-- 'hayloftlaw01.NumOrder': WHATEVER THE INPUT: true; the input reads as it did. -/
def numOrderSpec : ChangeSpec := { name := "numOrder", fn := fun _ => fun
  | [d1, d2] => { results := [.lit (.bool true)], args := [d1, d2] }
  | _ => none }
def numOrderRow : OpenClaim := { program := "ytemgehocabfbkaa", sum := "82c06207be5a77741d018c1c03b7e6adca83aff281b5b4f54481f4d1ddf2b472", func := "hayloft/hayloftlaw01.NumOrder", spec := "numOrder", apart := false }
def NumOrderSaid : Prop := numOrderRow.holds Try.pinned (OpenSpec.ofChange numOrderSpec)

/-- ITS FALSE NEIGHBOUR: 'it returns false'. Refute it at one input. -/
def numOrderWrong : ChangeSpec := { name := "numOrder", fn := fun _ => fun
  | [d1, d2] => { results := [.lit (.bool false)], args := [d1, d2] }
  | _ => none }
def NumOrderWrongFalsely : Prop := numOrderRow.holds Try.pinned (OpenSpec.ofChange numOrderWrong)

/-- 'hayloftlaw01.NumBack': WHATEVER THE INPUT: true; the input reads as it did. -/
def numBackSpec : ChangeSpec := { name := "numBack", fn := fun _ => fun
  | [d] => { results := [.lit (.bool true)], args := [d] }
  | _ => none }
def numBackRow : OpenClaim := { program := "ytemgehocabfbkaa", sum := "82c06207be5a77741d018c1c03b7e6adca83aff281b5b4f54481f4d1ddf2b472", func := "hayloft/hayloftlaw01.NumBack", spec := "numBack", apart := false }
def NumBackSaid : Prop := numBackRow.holds Try.pinned (OpenSpec.ofChange numBackSpec)

/-- ITS FALSE NEIGHBOUR: 'it returns false'. Refute it at one input. -/
def numBackWrong : ChangeSpec := { name := "numBack", fn := fun _ => fun
  | [d] => { results := [.lit (.bool false)], args := [d] }
  | _ => none }
def NumBackWrongFalsely : Prop := numBackRow.holds Try.pinned (OpenSpec.ofChange numBackWrong)

/-- 'hayloftlaw01.NumReads': WHATEVER THE INPUT: true; the input reads as it did. -/
def numReadsSpec : ChangeSpec := { name := "numReads", fn := fun _ => fun
  | [d1, d2] => { results := [.lit (.bool true)], args := [d1, d2] }
  | _ => none }
def numReadsRow : OpenClaim := { program := "ytemgehocabfbkaa", sum := "82c06207be5a77741d018c1c03b7e6adca83aff281b5b4f54481f4d1ddf2b472", func := "hayloft/hayloftlaw01.NumReads", spec := "numReads", apart := false }
def NumReadsSaid : Prop := numReadsRow.holds Try.pinned (OpenSpec.ofChange numReadsSpec)

/-- ITS FALSE NEIGHBOUR: 'it returns false'. Refute it at one input. -/
def numReadsWrong : ChangeSpec := { name := "numReads", fn := fun _ => fun
  | [d1, d2] => { results := [.lit (.bool false)], args := [d1, d2] }
  | _ => none }
def NumReadsWrongFalsely : Prop := numReadsRow.holds Try.pinned (OpenSpec.ofChange numReadsWrong)

/-- 'hayloftlaw01.NumStays': WHATEVER THE INPUT: true; the input reads as it did. -/
def numStaysSpec : ChangeSpec := { name := "numStays", fn := fun _ => fun
  | [d1, d2, d3] => { results := [.lit (.bool true)], args := [d1, d2, d3] }
  | _ => none }
def numStaysRow : OpenClaim := { program := "ytemgehocabfbkaa", sum := "82c06207be5a77741d018c1c03b7e6adca83aff281b5b4f54481f4d1ddf2b472", func := "hayloft/hayloftlaw01.NumStays", spec := "numStays", apart := false }
def NumStaysSaid : Prop := numStaysRow.holds Try.pinned (OpenSpec.ofChange numStaysSpec)

/-- ITS FALSE NEIGHBOUR: 'it returns false'. Refute it at one input. -/
def numStaysWrong : ChangeSpec := { name := "numStays", fn := fun _ => fun
  | [d1, d2, d3] => { results := [.lit (.bool false)], args := [d1, d2, d3] }
  | _ => none }
def NumStaysWrongFalsely : Prop := numStaysRow.holds Try.pinned (OpenSpec.ofChange numStaysWrong)

/- THE SECOND FORM. 'bulk': how many values and letters a reading holds, each counted each time it is reached (what is shared counts as often as it is met; a slice's spare places count too). A statement '..UptoSaid' is the law's where the arguments, and the package variables that the reading takes, are together of bulk at most 1048576: NARROWER than '..Said'. Prove '..Said' where nothing that the law and all that it calls make is longer than what came in: it says more and counts as full. Else prove '..UptoSaid'. A law counts once. -/
mutual
def uptoBulk {H : Type} : DataW H → Nat
  | .lit (.string bytes) => bytes.length + 1
  | .lit _ => 1
  | .nil => 1
  | .ptr d => uptoBulk d + 1
  | .slice elems spare => uptoBulkAll elems + uptoBulkAll spare + 1
  | .agg parts => uptoBulkAll parts + 1
  | .iface _ d => uptoBulk d + 1
  | .map entries => uptoBulkEntries entries + 1
  | .held _ => 1
def uptoBulkAll {H : Type} : List (DataW H) → Nat
  | [] => 0
  | d :: r => uptoBulk d + uptoBulkAll r
def uptoBulkEntries {H : Type} : List (Lit × DataW H) → Nat
  | [] => 0
  | x :: r => uptoBulkEntry x + uptoBulkEntries r
def uptoBulkEntry {H : Type} : Lit × DataW H → Nat
  | (.string bytes, d) => bytes.length + uptoBulk d + 1
  | (_, d) => uptoBulk d + 1
 end
def uptoSmall : (H : Type) → List (DataW H) → Bool := fun _ ds => decide (uptoBulkAll ds ≤ 1048576)
def OpenSpec.upto (s : _root_.Go.ChangeSpec) : _root_.Go.OpenSpec := { _root_.Go.OpenSpec.ofChange s with cond := some uptoSmall }

/-- 'hayloftlaw01.NumPuts', WHERE WHAT IT READS IS OF BULK AT MOST 1048576: true; the input reads as it did. -/
def numPutsUptoRow : OpenClaim := { program := "ytemgehocabfbkaa", sum := "82c06207be5a77741d018c1c03b7e6adca83aff281b5b4f54481f4d1ddf2b472", func := "hayloft/hayloftlaw01.NumPuts", spec := "numPuts", apart := false, narrowed := true }
def NumPutsUptoSaid : Prop := numPutsUptoRow.holds Try.pinned (OpenSpec.upto numPutsSpec)

/-- 'hayloftlaw01.NumVars', WHERE WHAT IT READS IS OF BULK AT MOST 1048576: true; the input reads as it did. -/
def numVarsUptoRow : OpenClaim := { program := "ytemgehocabfbkaa", sum := "82c06207be5a77741d018c1c03b7e6adca83aff281b5b4f54481f4d1ddf2b472", func := "hayloft/hayloftlaw01.NumVars", spec := "numVars", apart := false, narrowed := true }
def NumVarsUptoSaid : Prop := numVarsUptoRow.holds Try.pinned (OpenSpec.upto numVarsSpec)

/-- 'hayloftlaw01.NumOne', WHERE WHAT IT READS IS OF BULK AT MOST 1048576: true; the input reads as it did. -/
def numOneUptoRow : OpenClaim := { program := "ytemgehocabfbkaa", sum := "82c06207be5a77741d018c1c03b7e6adca83aff281b5b4f54481f4d1ddf2b472", func := "hayloft/hayloftlaw01.NumOne", spec := "numOne", apart := false, narrowed := true }
def NumOneUptoSaid : Prop := numOneUptoRow.holds Try.pinned (OpenSpec.upto numOneSpec)

/-- 'hayloftlaw01.NumOrder', WHERE WHAT IT READS IS OF BULK AT MOST 1048576: true; the input reads as it did. -/
def numOrderUptoRow : OpenClaim := { program := "ytemgehocabfbkaa", sum := "82c06207be5a77741d018c1c03b7e6adca83aff281b5b4f54481f4d1ddf2b472", func := "hayloft/hayloftlaw01.NumOrder", spec := "numOrder", apart := false, narrowed := true }
def NumOrderUptoSaid : Prop := numOrderUptoRow.holds Try.pinned (OpenSpec.upto numOrderSpec)

/-- 'hayloftlaw01.NumBack', WHERE WHAT IT READS IS OF BULK AT MOST 1048576: true; the input reads as it did. -/
def numBackUptoRow : OpenClaim := { program := "ytemgehocabfbkaa", sum := "82c06207be5a77741d018c1c03b7e6adca83aff281b5b4f54481f4d1ddf2b472", func := "hayloft/hayloftlaw01.NumBack", spec := "numBack", apart := false, narrowed := true }
def NumBackUptoSaid : Prop := numBackUptoRow.holds Try.pinned (OpenSpec.upto numBackSpec)

/-- 'hayloftlaw01.NumReads', WHERE WHAT IT READS IS OF BULK AT MOST 1048576: true; the input reads as it did. -/
def numReadsUptoRow : OpenClaim := { program := "ytemgehocabfbkaa", sum := "82c06207be5a77741d018c1c03b7e6adca83aff281b5b4f54481f4d1ddf2b472", func := "hayloft/hayloftlaw01.NumReads", spec := "numReads", apart := false, narrowed := true }
def NumReadsUptoSaid : Prop := numReadsUptoRow.holds Try.pinned (OpenSpec.upto numReadsSpec)

/-- 'hayloftlaw01.NumStays', WHERE WHAT IT READS IS OF BULK AT MOST 1048576: true; the input reads as it did. -/
def numStaysUptoRow : OpenClaim := { program := "ytemgehocabfbkaa", sum := "82c06207be5a77741d018c1c03b7e6adca83aff281b5b4f54481f4d1ddf2b472", func := "hayloft/hayloftlaw01.NumStays", spec := "numStays", apart := false, narrowed := true }
def NumStaysUptoSaid : Prop := numStaysUptoRow.holds Try.pinned (OpenSpec.upto numStaysSpec)

end Rows
end Go.Proofs.Ytemgehocabfbkaa
