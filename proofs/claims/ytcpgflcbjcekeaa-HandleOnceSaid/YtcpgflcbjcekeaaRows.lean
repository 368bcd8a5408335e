/-
  No cell of these rows narrows 'for every input' (looked for: loops, veiled, ifaces, maps, wideKeys, modest, calm, conditions, laid).
  DERIVED. THE GIVEN ROWS OF THIS SEAT. 7 by the template 'for every input the law returns true; each argument reads behind the call as it read before'; 0 by the template 'total and deterministic' (their statements: YtcpgflcbjcekeaaTotals.lean).
  GIVEN WITH THE SEED: the statements are not yours to turn. If you find one false, say at which input.
  Laid BY PROGRAM, IN A SANDBOX (cutbox-rows.mjs): the forced cells as the released guide's own fill.sh prints them over the translation 0c946a8a2265e150… (all of the seat's roots in one cut). By AI agents, Wed Nov 11 2026. No macro, syntax, notation, axiom, sorry.
-/
import Derived.Test.YtcpgflcbjcekeaaChecked
import GoSem.Claim
import GoSem.ClaimJoined
import GoSem.ClaimMapViews
import Derived.JoinedTies
import Derived.KernelRfl
namespace Go.Proofs.Ytcpgflcbjcekeaa
/- THE CELL 'sum', in the pinned program and in every row, IS THE sha256 OF THE DUMP (.gsa) THAT YtcpgflcbjcekeaaProg.lean LOADS. Nothing in Lean hashes anything: it is a label: what it is worth is what the hold of that sum in a sandbox is worth. -/
noncomputable def Try.pinned : Pinned := { name := "ytcpgflcbjcekeaa", sum := "0c946a8a2265e150c7d2c5cad05030ce5085b78570cd4a5c120243cfca77b703", checked := Try.checked }
namespace Rows
def none {H : Type} : Left H := { results := [], args := [] }

/-- 'hayloftlaw12.HandleOf': WHATEVER THE INPUT: true; the input reads as it did. -/
def handleOfSpec : ChangeSpec := { name := "handleOf", fn := fun _ => fun
  | [d1, d2] => { results := [.lit (.bool true)], args := [d1, d2] }
  | _ => none }
def handleOfRow : OpenClaim := { program := "ytcpgflcbjcekeaa", sum := "0c946a8a2265e150c7d2c5cad05030ce5085b78570cd4a5c120243cfca77b703", func := "hayloft/hayloftlaw12.HandleOf", spec := "handleOf", apart := false }
def HandleOfSaid : Prop := handleOfRow.holds Try.pinned (OpenSpec.ofChange handleOfSpec)

/-- ITS FALSE NEIGHBOUR: 'it returns false'. Refute it at one input. -/
def handleOfWrong : ChangeSpec := { name := "handleOf", fn := fun _ => fun
  | [d1, d2] => { results := [.lit (.bool false)], args := [d1, d2] }
  | _ => none }
def HandleOfWrongFalsely : Prop := handleOfRow.holds Try.pinned (OpenSpec.ofChange handleOfWrong)

/-- 'hayloftlaw12.HandleOnce': WHATEVER THE INPUT: true; the input reads as it did. -/
def handleOnceSpec : ChangeSpec := { name := "handleOnce", fn := fun _ => fun
  | [d1, d2] => { results := [.lit (.bool true)], args := [d1, d2] }
  | _ => none }
def handleOnceRow : OpenClaim := { program := "ytcpgflcbjcekeaa", sum := "0c946a8a2265e150c7d2c5cad05030ce5085b78570cd4a5c120243cfca77b703", func := "hayloft/hayloftlaw12.HandleOnce", spec := "handleOnce", apart := false }
def HandleOnceSaid : Prop := handleOnceRow.holds Try.pinned (OpenSpec.ofChange handleOnceSpec)

/-- ITS FALSE NEIGHBOUR: 'it returns false'. Refute it at one input. -/
def handleOnceWrong : ChangeSpec := { name := "handleOnce", fn := fun _ => fun
  | [d1, d2] => { results := [.lit (.bool false)], args := [d1, d2] }
  | _ => none }
def HandleOnceWrongFalsely : Prop := handleOnceRow.holds Try.pinned (OpenSpec.ofChange handleOnceWrong)

/-- 'hayloftlaw12.HandleStale': WHATEVER THE INPUT: true; the input reads as it did. -/
def handleStaleSpec : ChangeSpec := { name := "handleStale", fn := fun _ => fun
  | [d1, d2, d3] => { results := [.lit (.bool true)], args := [d1, d2, d3] }
  | _ => none }
def handleStaleRow : OpenClaim := { program := "ytcpgflcbjcekeaa", sum := "0c946a8a2265e150c7d2c5cad05030ce5085b78570cd4a5c120243cfca77b703", func := "hayloft/hayloftlaw12.HandleStale", spec := "handleStale", apart := false }
def HandleStaleSaid : Prop := handleStaleRow.holds Try.pinned (OpenSpec.ofChange handleStaleSpec)

/-- ITS FALSE NEIGHBOUR: 'it returns false'. Refute it at one input. -/
def handleStaleWrong : ChangeSpec := { name := "handleStale", fn := fun _ => fun
  | [d1, d2, d3] => { results := [.lit (.bool false)], args := [d1, d2, d3] }
  | _ => none }
def HandleStaleWrongFalsely : Prop := handleStaleRow.holds Try.pinned (OpenSpec.ofChange handleStaleWrong)

/-- 'hayloftlaw12.HandleForged': WHATEVER THE INPUT: true; the input reads as it did. -/
def handleForgedSpec : ChangeSpec := { name := "handleForged", fn := fun _ => fun
  | [d1, d2, d3] => { results := [.lit (.bool true)], args := [d1, d2, d3] }
  | _ => none }
def handleForgedRow : OpenClaim := { program := "ytcpgflcbjcekeaa", sum := "0c946a8a2265e150c7d2c5cad05030ce5085b78570cd4a5c120243cfca77b703", func := "hayloft/hayloftlaw12.HandleForged", spec := "handleForged", apart := false }
def HandleForgedSaid : Prop := handleForgedRow.holds Try.pinned (OpenSpec.ofChange handleForgedSpec)

/-- ITS FALSE NEIGHBOUR: 'it returns false'. Refute it at one input. -/
def handleForgedWrong : ChangeSpec := { name := "handleForged", fn := fun _ => fun
  | [d1, d2, d3] => { results := [.lit (.bool false)], args := [d1, d2, d3] }
  | _ => none }
def HandleForgedWrongFalsely : Prop := handleForgedRow.holds Try.pinned (OpenSpec.ofChange handleForgedWrong)

/-- 'hayloftlaw12.HandlePlays': WHATEVER THE INPUT: true; the input reads as it did. -/
def handlePlaysSpec : ChangeSpec := { name := "handlePlays", fn := fun _ => fun
  | [d1, d2] => { results := [.lit (.bool true)], args := [d1, d2] }
  | _ => none }
def handlePlaysRow : OpenClaim := { program := "ytcpgflcbjcekeaa", sum := "0c946a8a2265e150c7d2c5cad05030ce5085b78570cd4a5c120243cfca77b703", func := "hayloft/hayloftlaw12.HandlePlays", spec := "handlePlays", apart := false }
def HandlePlaysSaid : Prop := handlePlaysRow.holds Try.pinned (OpenSpec.ofChange handlePlaysSpec)

/-- ITS FALSE NEIGHBOUR: 'it returns false'. Refute it at one input. -/
def handlePlaysWrong : ChangeSpec := { name := "handlePlays", fn := fun _ => fun
  | [d1, d2] => { results := [.lit (.bool false)], args := [d1, d2] }
  | _ => none }
def HandlePlaysWrongFalsely : Prop := handlePlaysRow.holds Try.pinned (OpenSpec.ofChange handlePlaysWrong)

/-- 'hayloftlaw12.HandleFrom': WHATEVER THE INPUT: true; the input reads as it did. -/
def handleFromSpec : ChangeSpec := { name := "handleFrom", fn := fun _ => fun
  | [d1, d2, d3] => { results := [.lit (.bool true)], args := [d1, d2, d3] }
  | _ => none }
def handleFromRow : OpenClaim := { program := "ytcpgflcbjcekeaa", sum := "0c946a8a2265e150c7d2c5cad05030ce5085b78570cd4a5c120243cfca77b703", func := "hayloft/hayloftlaw12.HandleFrom", spec := "handleFrom", apart := false }
def HandleFromSaid : Prop := handleFromRow.holds Try.pinned (OpenSpec.ofChange handleFromSpec)

/-- ITS FALSE NEIGHBOUR: 'it returns false'. Refute it at one input. -/
def handleFromWrong : ChangeSpec := { name := "handleFrom", fn := fun _ => fun
  | [d1, d2, d3] => { results := [.lit (.bool false)], args := [d1, d2, d3] }
  | _ => none }
def HandleFromWrongFalsely : Prop := handleFromRow.holds Try.pinned (OpenSpec.ofChange handleFromWrong)

/-- 'hayloftlaw12.HandleNil': WHATEVER THE INPUT: true; the input reads as it did. -/
def handleNilSpec : ChangeSpec := { name := "handleNil", fn := fun _ => fun
  | [d1, d2] => { results := [.lit (.bool true)], args := [d1, d2] }
  | _ => none }
def handleNilRow : OpenClaim := { program := "ytcpgflcbjcekeaa", sum := "0c946a8a2265e150c7d2c5cad05030ce5085b78570cd4a5c120243cfca77b703", func := "hayloft/hayloftlaw12.HandleNil", spec := "handleNil", apart := false }
def HandleNilSaid : Prop := handleNilRow.holds Try.pinned (OpenSpec.ofChange handleNilSpec)

/-- ITS FALSE NEIGHBOUR: 'it returns false'. Refute it at one input. -/
def handleNilWrong : ChangeSpec := { name := "handleNil", fn := fun _ => fun
  | [d1, d2] => { results := [.lit (.bool false)], args := [d1, d2] }
  | _ => none }
def HandleNilWrongFalsely : Prop := handleNilRow.holds Try.pinned (OpenSpec.ofChange handleNilWrong)

/- THE SECOND FORM. 'bulk': how many values and letters a reading holds, each counted each time it is reached (what is shared counts as often as it is met; a slice's spare places count too). A statement '..UptoSaid' is the law's where the arguments, and the package variables that the reading takes, are together of bulk at most 1048576: NARROWER than '..Said'. Prove '..Said' where nothing that the law and all that it calls make is longer than what came in: it says more and counts as full. Else prove '..UptoSaid'. A law counts once. -/
mutual
def uptoBulk {H : Type} : DataW H → Nat
  | .lit (.string bytes) => bytes.length + 1
  | .lit _ => 1
  | .nil => 1
  | .ptr d => uptoBulk d + 1
  | .slice elems spare => uptoBulkAll elems + uptoBulkAll spare + 1
  | .agg parts => uptoBulkAll parts + 1
  | .iface _ d => uptoBulk d + 1
  | .map entries => uptoBulkEntries entries + 1
  | .held _ => 1
def uptoBulkAll {H : Type} : List (DataW H) → Nat
  | [] => 0
  | d :: r => uptoBulk d + uptoBulkAll r
def uptoBulkEntries {H : Type} : List (Lit × DataW H) → Nat
  | [] => 0
  | x :: r => uptoBulkEntry x + uptoBulkEntries r
def uptoBulkEntry {H : Type} : Lit × DataW H → Nat
  | (.string bytes, d) => bytes.length + uptoBulk d + 1
  | (_, d) => uptoBulk d + 1
 end
def uptoSmall : (H : Type) → List (DataW H) → Bool := fun _ ds => decide (uptoBulkAll ds ≤ 1048576)
def OpenSpec.upto (s : _root_.Go.ChangeSpec) : _root_.Go.OpenSpec := { _root_.Go.OpenSpec.ofChange s with cond := some uptoSmall }

/-- 'hayloftlaw12.HandleOf', WHERE WHAT IT READS IS OF BULK AT MOST 1048576: true; the input reads as it did. -/
def handleOfUptoRow : OpenClaim := { program := "ytcpgflcbjcekeaa", sum := "0c946a8a2265e150c7d2c5cad05030ce5085b78570cd4a5c120243cfca77b703", func := "hayloft/hayloftlaw12.HandleOf", spec := "handleOf", apart := false, narrowed := true }
def HandleOfUptoSaid : Prop := handleOfUptoRow.holds Try.pinned (OpenSpec.upto handleOfSpec)

/-- 'hayloftlaw12.HandleOnce', WHERE WHAT IT READS IS OF BULK AT MOST 1048576: true; the input reads as it did. -/
def handleOnceUptoRow : OpenClaim := { program := "ytcpgflcbjcekeaa", sum := "0c946a8a2265e150c7d2c5cad05030ce5085b78570cd4a5c120243cfca77b703", func := "hayloft/hayloftlaw12.HandleOnce", spec := "handleOnce", apart := false, narrowed := true }
def HandleOnceUptoSaid : Prop := handleOnceUptoRow.holds Try.pinned (OpenSpec.upto handleOnceSpec)

/-- 'hayloftlaw12.HandleStale', WHERE WHAT IT READS IS OF BULK AT MOST 1048576: true; the input reads as it did. -/
def handleStaleUptoRow : OpenClaim := { program := "ytcpgflcbjcekeaa", sum := "0c946a8a2265e150c7d2c5cad05030ce5085b78570cd4a5c120243cfca77b703", func := "hayloft/hayloftlaw12.HandleStale", spec := "handleStale", apart := false, narrowed := true }
def HandleStaleUptoSaid : Prop := handleStaleUptoRow.holds Try.pinned (OpenSpec.upto handleStaleSpec)

/-- 'hayloftlaw12.HandleForged', WHERE WHAT IT READS IS OF BULK AT MOST 1048576: true; the input reads as it did. -/
def handleForgedUptoRow : OpenClaim := { program := "ytcpgflcbjcekeaa", sum := "0c946a8a2265e150c7d2c5cad05030ce5085b78570cd4a5c120243cfca77b703", func := "hayloft/hayloftlaw12.HandleForged", spec := "handleForged", apart := false, narrowed := true }
def HandleForgedUptoSaid : Prop := handleForgedUptoRow.holds Try.pinned (OpenSpec.upto handleForgedSpec)

/-- 'hayloftlaw12.HandlePlays', WHERE WHAT IT READS IS OF BULK AT MOST 1048576: true; the input reads as it did. -/
def handlePlaysUptoRow : OpenClaim := { program := "ytcpgflcbjcekeaa", sum := "0c946a8a2265e150c7d2c5cad05030ce5085b78570cd4a5c120243cfca77b703", func := "hayloft/hayloftlaw12.HandlePlays", spec := "handlePlays", apart := false, narrowed := true }
def HandlePlaysUptoSaid : Prop := handlePlaysUptoRow.holds Try.pinned (OpenSpec.upto handlePlaysSpec)

/-- 'hayloftlaw12.HandleFrom', WHERE WHAT IT READS IS OF BULK AT MOST 1048576: true; the input reads as it did. -/
def handleFromUptoRow : OpenClaim := { program := "ytcpgflcbjcekeaa", sum := "0c946a8a2265e150c7d2c5cad05030ce5085b78570cd4a5c120243cfca77b703", func := "hayloft/hayloftlaw12.HandleFrom", spec := "handleFrom", apart := false, narrowed := true }
def HandleFromUptoSaid : Prop := handleFromUptoRow.holds Try.pinned (OpenSpec.upto handleFromSpec)

/-- 'hayloftlaw12.HandleNil', WHERE WHAT IT READS IS OF BULK AT MOST 1048576: true; the input reads as it did. -/
def handleNilUptoRow : OpenClaim := { program := "ytcpgflcbjcekeaa", sum := "0c946a8a2265e150c7d2c5cad05030ce5085b78570cd4a5c120243cfca77b703", func := "hayloft/hayloftlaw12.HandleNil", spec := "handleNil", apart := false, narrowed := true }
def HandleNilUptoSaid : Prop := handleNilUptoRow.holds Try.pinned (OpenSpec.upto handleNilSpec)

end Rows
end Go.Proofs.Ytcpgflcbjcekeaa
