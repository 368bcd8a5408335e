/-
  No cell of these rows narrows 'for every input' (looked for: loops, veiled, ifaces, maps, wideKeys, modest, calm, conditions, laid).
  DERIVED. THE GIVEN ROWS OF THIS SEAT. 6 by the template 'for every input the law returns true; each argument reads behind the call as it read before'; 0 by the template 'total and deterministic' (their statements: YtfigojigigkdmaaTotals.lean).
  GIVEN WITH THE SEED: the statements are not yours to turn. If you find one false, say at which input.
  Laid BY PROGRAM, IN A SANDBOX (cutbox-rows.mjs): the forced cells as the released guide's own fill.sh prints them over the translation d93cd5914bf3387b… (all of the seat's roots in one cut). By AI agents, Wed Nov 11 2026. No macro, syntax, notation, axiom, sorry.
-/
import Derived.Test.YtfigojigigkdmaaChecked
import GoSem.Claim
import GoSem.ClaimJoined
import GoSem.ClaimMapViews
import Derived.JoinedTies
import Derived.KernelRfl
namespace Go.Proofs.Ytfigojigigkdmaa
/- THE CELL 'sum', in the pinned program and in every row, IS THE sha256 OF THE DUMP (.gsa) THAT YtfigojigigkdmaaProg.lean LOADS. Nothing in Lean hashes anything: it is a label: what it is worth is what the hold of that sum in a sandbox is worth. -/
noncomputable def Try.pinned : Pinned := { name := "ytfigojigigkdmaa", sum := "d93cd5914bf3387bbca06f393b0b0fba332302f090a40178e3e77bf08ab27eb5", checked := Try.checked }
namespace Rows
def none {H : Type} : Left H := { results := [], args := [] }

/-- 'hayloftlaw16.RelocApplies': WHATEVER THE INPUT: true; the input reads as it did. -/
def relocAppliesSpec : ChangeSpec := { name := "relocApplies", fn := fun _ => fun
  | [d1, d2, d3] => { results := [.lit (.bool true)], args := [d1, d2, d3] }
  | _ => none }
def relocAppliesRow : OpenClaim := { program := "ytfigojigigkdmaa", sum := "d93cd5914bf3387bbca06f393b0b0fba332302f090a40178e3e77bf08ab27eb5", func := "hayloft/hayloftlaw16.RelocApplies", spec := "relocApplies", apart := false }
def RelocAppliesSaid : Prop := relocAppliesRow.holds Try.pinned (OpenSpec.ofChange relocAppliesSpec)

/-- ITS FALSE NEIGHBOUR: 'it returns false'. Refute it at one input. -/
def relocAppliesWrong : ChangeSpec := { name := "relocApplies", fn := fun _ => fun
  | [d1, d2, d3] => { results := [.lit (.bool false)], args := [d1, d2, d3] }
  | _ => none }
def RelocAppliesWrongFalsely : Prop := relocAppliesRow.holds Try.pinned (OpenSpec.ofChange relocAppliesWrong)

/-- 'hayloftlaw16.RelocBack': WHATEVER THE INPUT: true; the input reads as it did. -/
def relocBackSpec : ChangeSpec := { name := "relocBack", fn := fun _ => fun
  | [d1, d2, d3] => { results := [.lit (.bool true)], args := [d1, d2, d3] }
  | _ => none }
def relocBackRow : OpenClaim := { program := "ytfigojigigkdmaa", sum := "d93cd5914bf3387bbca06f393b0b0fba332302f090a40178e3e77bf08ab27eb5", func := "hayloft/hayloftlaw16.RelocBack", spec := "relocBack", apart := false }
def RelocBackSaid : Prop := relocBackRow.holds Try.pinned (OpenSpec.ofChange relocBackSpec)

/-- ITS FALSE NEIGHBOUR: 'it returns false'. Refute it at one input. -/
def relocBackWrong : ChangeSpec := { name := "relocBack", fn := fun _ => fun
  | [d1, d2, d3] => { results := [.lit (.bool false)], args := [d1, d2, d3] }
  | _ => none }
def RelocBackWrongFalsely : Prop := relocBackRow.holds Try.pinned (OpenSpec.ofChange relocBackWrong)

/-- 'hayloftlaw16.RelocElse': WHATEVER THE INPUT: true; the input reads as it did. -/
def relocElseSpec : ChangeSpec := { name := "relocElse", fn := fun _ => fun
  | [d1, d2, d3] => { results := [.lit (.bool true)], args := [d1, d2, d3] }
  | _ => none }
def relocElseRow : OpenClaim := { program := "ytfigojigigkdmaa", sum := "d93cd5914bf3387bbca06f393b0b0fba332302f090a40178e3e77bf08ab27eb5", func := "hayloft/hayloftlaw16.RelocElse", spec := "relocElse", apart := false }
def RelocElseSaid : Prop := relocElseRow.holds Try.pinned (OpenSpec.ofChange relocElseSpec)

/-- ITS FALSE NEIGHBOUR: 'it returns false'. Refute it at one input. -/
def relocElseWrong : ChangeSpec := { name := "relocElse", fn := fun _ => fun
  | [d1, d2, d3] => { results := [.lit (.bool false)], args := [d1, d2, d3] }
  | _ => none }
def RelocElseWrongFalsely : Prop := relocElseRow.holds Try.pinned (OpenSpec.ofChange relocElseWrong)

/-- 'hayloftlaw16.RelocWrites': WHATEVER THE INPUT: true; the input reads as it did. -/
def relocWritesSpec : ChangeSpec := { name := "relocWrites", fn := fun _ => fun
  | [d1, d2, d3] => { results := [.lit (.bool true)], args := [d1, d2, d3] }
  | _ => none }
def relocWritesRow : OpenClaim := { program := "ytfigojigigkdmaa", sum := "d93cd5914bf3387bbca06f393b0b0fba332302f090a40178e3e77bf08ab27eb5", func := "hayloft/hayloftlaw16.RelocWrites", spec := "relocWrites", apart := false }
def RelocWritesSaid : Prop := relocWritesRow.holds Try.pinned (OpenSpec.ofChange relocWritesSpec)

/-- ITS FALSE NEIGHBOUR: 'it returns false'. Refute it at one input. -/
def relocWritesWrong : ChangeSpec := { name := "relocWrites", fn := fun _ => fun
  | [d1, d2, d3] => { results := [.lit (.bool false)], args := [d1, d2, d3] }
  | _ => none }
def RelocWritesWrongFalsely : Prop := relocWritesRow.holds Try.pinned (OpenSpec.ofChange relocWritesWrong)

/-- 'hayloftlaw16.RelocReads': WHATEVER THE INPUT: true; the input reads as it did. -/
def relocReadsSpec : ChangeSpec := { name := "relocReads", fn := fun _ => fun
  | [d] => { results := [.lit (.bool true)], args := [d] }
  | _ => none }
def relocReadsRow : OpenClaim := { program := "ytfigojigigkdmaa", sum := "d93cd5914bf3387bbca06f393b0b0fba332302f090a40178e3e77bf08ab27eb5", func := "hayloft/hayloftlaw16.RelocReads", spec := "relocReads", apart := false }
def RelocReadsSaid : Prop := relocReadsRow.holds Try.pinned (OpenSpec.ofChange relocReadsSpec)

/-- ITS FALSE NEIGHBOUR: 'it returns false'. Refute it at one input. -/
def relocReadsWrong : ChangeSpec := { name := "relocReads", fn := fun _ => fun
  | [d] => { results := [.lit (.bool false)], args := [d] }
  | _ => none }
def RelocReadsWrongFalsely : Prop := relocReadsRow.holds Try.pinned (OpenSpec.ofChange relocReadsWrong)

/-- 'hayloftlaw16.RelocOne': WHATEVER THE INPUT: true; the input reads as it did. -/
def relocOneSpec : ChangeSpec := { name := "relocOne", fn := fun _ => fun
  | [d] => { results := [.lit (.bool true)], args := [d] }
  | _ => none }
def relocOneRow : OpenClaim := { program := "ytfigojigigkdmaa", sum := "d93cd5914bf3387bbca06f393b0b0fba332302f090a40178e3e77bf08ab27eb5", func := "hayloft/hayloftlaw16.RelocOne", spec := "relocOne", apart := false }
def RelocOneSaid : Prop := relocOneRow.holds Try.pinned (OpenSpec.ofChange relocOneSpec)

/-- ITS FALSE NEIGHBOUR: 'it returns false'. Refute it at one input. -/
def relocOneWrong : ChangeSpec := { name := "relocOne", fn := fun _ => fun
  | [d] => { results := [.lit (.bool false)], args := [d] }
  | _ => none }
def RelocOneWrongFalsely : Prop := relocOneRow.holds Try.pinned (OpenSpec.ofChange relocOneWrong)

/- THE SECOND FORM. 'bulk': how many values and letters a reading holds, each counted each time it is reached (what is shared counts as often as it is met; a slice's spare places count too). A statement '..UptoSaid' is the law's where the arguments, and the package variables that the reading takes, are together of bulk at most 1048576: NARROWER than '..Said'. Prove '..Said' where nothing that the law and all that it calls make is longer than what came in: it says more and counts as full. Else prove '..UptoSaid'. A law counts once. -/
mutual
def uptoBulk {H : Type} : DataW H → Nat
  | .lit (.string bytes) => bytes.length + 1
  | .lit _ => 1
  | .nil => 1
  | .ptr d => uptoBulk d + 1
  | .slice elems spare => uptoBulkAll elems + uptoBulkAll spare + 1
  | .agg parts => uptoBulkAll parts + 1
  | .iface _ d => uptoBulk d + 1
  | .map entries => uptoBulkEntries entries + 1
  | .held _ => 1
def uptoBulkAll {H : Type} : List (DataW H) → Nat
  | [] => 0
  | d :: r => uptoBulk d + uptoBulkAll r
def uptoBulkEntries {H : Type} : List (Lit × DataW H) → Nat
  | [] => 0
  | x :: r => uptoBulkEntry x + uptoBulkEntries r
def uptoBulkEntry {H : Type} : Lit × DataW H → Nat
  | (.string bytes, d) => bytes.length + uptoBulk d + 1
  | (_, d) => uptoBulk d + 1
 end
def uptoSmall : (H : Type) → List (DataW H) → Bool := fun _ ds => decide (uptoBulkAll ds ≤ 1048576)
def OpenSpec.upto (s : _root_.Go.ChangeSpec) : _root_.Go.OpenSpec := { _root_.Go.OpenSpec.ofChange s with cond := some uptoSmall }

/-- 'hayloftlaw16.RelocApplies', WHERE WHAT IT READS IS OF BULK AT MOST 1048576: true; the input reads as it did. -/
def relocAppliesUptoRow : OpenClaim := { program := "ytfigojigigkdmaa", sum := "d93cd5914bf3387bbca06f393b0b0fba332302f090a40178e3e77bf08ab27eb5", func := "hayloft/hayloftlaw16.RelocApplies", spec := "relocApplies", apart := false, narrowed := true }
def RelocAppliesUptoSaid : Prop := relocAppliesUptoRow.holds Try.pinned (OpenSpec.upto relocAppliesSpec)

/-- 'hayloftlaw16.RelocBack', WHERE WHAT IT READS IS OF BULK AT MOST 1048576: true; the input reads as it did. -/
def relocBackUptoRow : OpenClaim := { program := "ytfigojigigkdmaa", sum := "d93cd5914bf3387bbca06f393b0b0fba332302f090a40178e3e77bf08ab27eb5", func := "hayloft/hayloftlaw16.RelocBack", spec := "relocBack", apart := false, narrowed := true }
def RelocBackUptoSaid : Prop := relocBackUptoRow.holds Try.pinned (OpenSpec.upto relocBackSpec)

/-- 'hayloftlaw16.RelocElse', WHERE WHAT IT READS IS OF BULK AT MOST 1048576: true; the input reads as it did. -/
def relocElseUptoRow : OpenClaim := { program := "ytfigojigigkdmaa", sum := "d93cd5914bf3387bbca06f393b0b0fba332302f090a40178e3e77bf08ab27eb5", func := "hayloft/hayloftlaw16.RelocElse", spec := "relocElse", apart := false, narrowed := true }
def RelocElseUptoSaid : Prop := relocElseUptoRow.holds Try.pinned (OpenSpec.upto relocElseSpec)

/-- 'hayloftlaw16.RelocWrites', WHERE WHAT IT READS IS OF BULK AT MOST 1048576: true; the input reads as it did. -/
def relocWritesUptoRow : OpenClaim := { program := "ytfigojigigkdmaa", sum := "d93cd5914bf3387bbca06f393b0b0fba332302f090a40178e3e77bf08ab27eb5", func := "hayloft/hayloftlaw16.RelocWrites", spec := "relocWrites", apart := false, narrowed := true }
def RelocWritesUptoSaid : Prop := relocWritesUptoRow.holds Try.pinned (OpenSpec.upto relocWritesSpec)

/-- 'hayloftlaw16.RelocReads', WHERE WHAT IT READS IS OF BULK AT MOST 1048576: true; the input reads as it did. -/
def relocReadsUptoRow : OpenClaim := { program := "ytfigojigigkdmaa", sum := "d93cd5914bf3387bbca06f393b0b0fba332302f090a40178e3e77bf08ab27eb5", func := "hayloft/hayloftlaw16.RelocReads", spec := "relocReads", apart := false, narrowed := true }
def RelocReadsUptoSaid : Prop := relocReadsUptoRow.holds Try.pinned (OpenSpec.upto relocReadsSpec)

/-- 'hayloftlaw16.RelocOne', WHERE WHAT IT READS IS OF BULK AT MOST 1048576: true; the input reads as it did. -/
def relocOneUptoRow : OpenClaim := { program := "ytfigojigigkdmaa", sum := "d93cd5914bf3387bbca06f393b0b0fba332302f090a40178e3e77bf08ab27eb5", func := "hayloft/hayloftlaw16.RelocOne", spec := "relocOne", apart := false, narrowed := true }
def RelocOneUptoSaid : Prop := relocOneUptoRow.holds Try.pinned (OpenSpec.upto relocOneSpec)

end Rows
end Go.Proofs.Ytfigojigigkdmaa
