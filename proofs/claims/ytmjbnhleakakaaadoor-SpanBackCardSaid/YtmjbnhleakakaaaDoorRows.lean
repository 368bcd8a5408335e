/-
  NARROWER THAN 'FOR EVERY INPUT', by the rows' own cells (each row's printed sentence says how): SpanPlaces: laid · SpanBack: laid · SpanFills: laid · SpanMakes: laid · SpanNil: laid · SpanPlays: laid.
  DERIVED. THE GIVEN ROWS OF THIS SEAT. 6 by the template 'for every input the law returns true; each argument reads behind the call as it read before'; 0 by the template 'total and deterministic' (their statements: YtmjbnhleakakaaaDoorTotals.lean).
  GIVEN WITH THE SEED: the statements are not yours to turn. If you find one false, say at which input.
  Laid BY PROGRAM, IN A SANDBOX (cutbox-rows.mjs): the forced cells as the released guide's own fill.sh prints them over the translation c7a7bd24baa9e690… (all of the seat's roots in one cut). By AI agents, Wed Nov 11 2026. No macro, syntax, notation, axiom, sorry.
-/
import Derived.Test.YtmjbnhleakakaaaDoorChecked
import GoSem.Claim
import GoSem.ClaimJoined
import GoSem.ClaimMapViews
import Derived.JoinedTies
import Derived.KernelRfl
namespace Go.Proofs.YtmjbnhleakakaaaDoor
/- THE CELL 'sum', in the pinned program and in every row, IS THE sha256 OF THE DUMP (.gsa) THAT YtmjbnhleakakaaaDoorProg.lean LOADS. Nothing in Lean hashes anything: it is a label: what it is worth is what the hold of that sum in a sandbox is worth. -/
noncomputable def Tryd.pinned : Pinned := { name := "ytmjbnhleakakaaadoor", sum := "c7a7bd24baa9e69006cdcb28ee29d17efd116583d80bd332aa5e3545ab59c4a5", checked := Tryd.checked }
namespace Rows
def none {H : Type} : Left H := { results := [], args := [] }

/- WHAT THE LISTED PACKAGE-LEVEL VARIABLES READ AS WHEN THE CALL BEGINS. Each datum BY PROGRAM (the guide's laid-datum.mjs) off the statement by which the dump's own 'gosem.cut.vars' lays the variable. In a bare row this is a premise. The card (YtmjbnhleakakaaaDoorCards.lean) ties it to the program's text. -/
def laid_math_bits_deBruijn64tab {H : Type} : DataW H := .agg [.lit (.int .u8 0), .lit (.int .u8 1), .lit (.int .u8 56), .lit (.int .u8 2), .lit (.int .u8 57), .lit (.int .u8 49), .lit (.int .u8 28), .lit (.int .u8 3), .lit (.int .u8 61), .lit (.int .u8 58), .lit (.int .u8 42), .lit (.int .u8 50), .lit (.int .u8 38), .lit (.int .u8 29), .lit (.int .u8 17), .lit (.int .u8 4), .lit (.int .u8 62), .lit (.int .u8 47), .lit (.int .u8 59), .lit (.int .u8 36), .lit (.int .u8 45), .lit (.int .u8 43), .lit (.int .u8 51), .lit (.int .u8 22), .lit (.int .u8 53), .lit (.int .u8 39), .lit (.int .u8 33), .lit (.int .u8 30), .lit (.int .u8 24), .lit (.int .u8 18), .lit (.int .u8 12), .lit (.int .u8 5), .lit (.int .u8 63), .lit (.int .u8 55), .lit (.int .u8 48), .lit (.int .u8 27), .lit (.int .u8 60), .lit (.int .u8 41), .lit (.int .u8 37), .lit (.int .u8 16), .lit (.int .u8 46), .lit (.int .u8 35), .lit (.int .u8 44), .lit (.int .u8 21), .lit (.int .u8 52), .lit (.int .u8 32), .lit (.int .u8 23), .lit (.int .u8 11), .lit (.int .u8 54), .lit (.int .u8 26), .lit (.int .u8 40), .lit (.int .u8 15), .lit (.int .u8 34), .lit (.int .u8 20), .lit (.int .u8 31), .lit (.int .u8 10), .lit (.int .u8 25), .lit (.int .u8 14), .lit (.int .u8 19), .lit (.int .u8 9), .lit (.int .u8 13), .lit (.int .u8 8), .lit (.int .u8 7), .lit (.int .u8 6)]

/-- 'hayloftlaw10.SpanPlaces': WHATEVER THE INPUT: true; the input reads as it did. -/
def spanPlacesSpec : ChangeSpec := { name := "spanPlaces", fn := fun _ => fun
  | [d1, d2, d3] => { results := [.lit (.bool true)], args := [d1, d2, d3] }
  | _ => none }
def spanPlacesRow : OpenClaim := { program := "ytmjbnhleakakaaadoor", sum := "c7a7bd24baa9e69006cdcb28ee29d17efd116583d80bd332aa5e3545ab59c4a5", func := "hayloft/hayloftlaw10.SpanPlaces", spec := "spanPlaces", named := ["math/bits.deBruijn64tab"], apart := false, laid := [("math/bits.deBruijn64tab", laid_math_bits_deBruijn64tab)] }
def SpanPlacesSaid : Prop := spanPlacesRow.holds Tryd.pinned (OpenSpec.ofChange spanPlacesSpec)

/-- ITS FALSE NEIGHBOUR: 'it returns false'. Refute it at one input. -/
def spanPlacesWrong : ChangeSpec := { name := "spanPlaces", fn := fun _ => fun
  | [d1, d2, d3] => { results := [.lit (.bool false)], args := [d1, d2, d3] }
  | _ => none }
def SpanPlacesWrongFalsely : Prop := spanPlacesRow.holds Tryd.pinned (OpenSpec.ofChange spanPlacesWrong)

/-- 'hayloftlaw10.SpanBack': WHATEVER THE INPUT: true; the input reads as it did. -/
def spanBackSpec : ChangeSpec := { name := "spanBack", fn := fun _ => fun
  | [d1, d2] => { results := [.lit (.bool true)], args := [d1, d2] }
  | _ => none }
def spanBackRow : OpenClaim := { program := "ytmjbnhleakakaaadoor", sum := "c7a7bd24baa9e69006cdcb28ee29d17efd116583d80bd332aa5e3545ab59c4a5", func := "hayloft/hayloftlaw10.SpanBack", spec := "spanBack", named := ["math/bits.deBruijn64tab"], apart := false, laid := [("math/bits.deBruijn64tab", laid_math_bits_deBruijn64tab)] }
def SpanBackSaid : Prop := spanBackRow.holds Tryd.pinned (OpenSpec.ofChange spanBackSpec)

/-- ITS FALSE NEIGHBOUR: 'it returns false'. Refute it at one input. -/
def spanBackWrong : ChangeSpec := { name := "spanBack", fn := fun _ => fun
  | [d1, d2] => { results := [.lit (.bool false)], args := [d1, d2] }
  | _ => none }
def SpanBackWrongFalsely : Prop := spanBackRow.holds Tryd.pinned (OpenSpec.ofChange spanBackWrong)

/-- 'hayloftlaw10.SpanFills': WHATEVER THE INPUT: true; the input reads as it did. -/
def spanFillsSpec : ChangeSpec := { name := "spanFills", fn := fun _ => fun
  | [d1, d2, d3] => { results := [.lit (.bool true)], args := [d1, d2, d3] }
  | _ => none }
def spanFillsRow : OpenClaim := { program := "ytmjbnhleakakaaadoor", sum := "c7a7bd24baa9e69006cdcb28ee29d17efd116583d80bd332aa5e3545ab59c4a5", func := "hayloft/hayloftlaw10.SpanFills", spec := "spanFills", named := ["math/bits.deBruijn64tab"], apart := false, laid := [("math/bits.deBruijn64tab", laid_math_bits_deBruijn64tab)] }
def SpanFillsSaid : Prop := spanFillsRow.holds Tryd.pinned (OpenSpec.ofChange spanFillsSpec)

/-- ITS FALSE NEIGHBOUR: 'it returns false'. Refute it at one input. -/
def spanFillsWrong : ChangeSpec := { name := "spanFills", fn := fun _ => fun
  | [d1, d2, d3] => { results := [.lit (.bool false)], args := [d1, d2, d3] }
  | _ => none }
def SpanFillsWrongFalsely : Prop := spanFillsRow.holds Tryd.pinned (OpenSpec.ofChange spanFillsWrong)

/-- 'hayloftlaw10.SpanMakes': WHATEVER THE INPUT: true; the input reads as it did. -/
def spanMakesSpec : ChangeSpec := { name := "spanMakes", fn := fun _ => fun
  | [d1, d2, d3] => { results := [.lit (.bool true)], args := [d1, d2, d3] }
  | _ => none }
def spanMakesRow : OpenClaim := { program := "ytmjbnhleakakaaadoor", sum := "c7a7bd24baa9e69006cdcb28ee29d17efd116583d80bd332aa5e3545ab59c4a5", func := "hayloft/hayloftlaw10.SpanMakes", spec := "spanMakes", named := ["math/bits.deBruijn64tab"], apart := false, laid := [("math/bits.deBruijn64tab", laid_math_bits_deBruijn64tab)] }
def SpanMakesSaid : Prop := spanMakesRow.holds Tryd.pinned (OpenSpec.ofChange spanMakesSpec)

/-- ITS FALSE NEIGHBOUR: 'it returns false'. Refute it at one input. -/
def spanMakesWrong : ChangeSpec := { name := "spanMakes", fn := fun _ => fun
  | [d1, d2, d3] => { results := [.lit (.bool false)], args := [d1, d2, d3] }
  | _ => none }
def SpanMakesWrongFalsely : Prop := spanMakesRow.holds Tryd.pinned (OpenSpec.ofChange spanMakesWrong)

/-- 'hayloftlaw10.SpanNil': WHATEVER THE INPUT: true; the input reads as it did. -/
def spanNilSpec : ChangeSpec := { name := "spanNil", fn := fun _ => fun
  | [d] => { results := [.lit (.bool true)], args := [d] }
  | _ => none }
def spanNilRow : OpenClaim := { program := "ytmjbnhleakakaaadoor", sum := "c7a7bd24baa9e69006cdcb28ee29d17efd116583d80bd332aa5e3545ab59c4a5", func := "hayloft/hayloftlaw10.SpanNil", spec := "spanNil", named := ["math/bits.deBruijn64tab"], apart := false, laid := [("math/bits.deBruijn64tab", laid_math_bits_deBruijn64tab)] }
def SpanNilSaid : Prop := spanNilRow.holds Tryd.pinned (OpenSpec.ofChange spanNilSpec)

/-- ITS FALSE NEIGHBOUR: 'it returns false'. Refute it at one input. -/
def spanNilWrong : ChangeSpec := { name := "spanNil", fn := fun _ => fun
  | [d] => { results := [.lit (.bool false)], args := [d] }
  | _ => none }
def SpanNilWrongFalsely : Prop := spanNilRow.holds Tryd.pinned (OpenSpec.ofChange spanNilWrong)

/-- 'hayloftlaw10.SpanPlays': WHATEVER THE INPUT: true; the input reads as it did. -/
def spanPlaysSpec : ChangeSpec := { name := "spanPlays", fn := fun _ => fun
  | [d1, d2] => { results := [.lit (.bool true)], args := [d1, d2] }
  | _ => none }
def spanPlaysRow : OpenClaim := { program := "ytmjbnhleakakaaadoor", sum := "c7a7bd24baa9e69006cdcb28ee29d17efd116583d80bd332aa5e3545ab59c4a5", func := "hayloft/hayloftlaw10.SpanPlays", spec := "spanPlays", named := ["math/bits.deBruijn64tab"], apart := false, laid := [("math/bits.deBruijn64tab", laid_math_bits_deBruijn64tab)] }
def SpanPlaysSaid : Prop := spanPlaysRow.holds Tryd.pinned (OpenSpec.ofChange spanPlaysSpec)

/-- ITS FALSE NEIGHBOUR: 'it returns false'. Refute it at one input. -/
def spanPlaysWrong : ChangeSpec := { name := "spanPlays", fn := fun _ => fun
  | [d1, d2] => { results := [.lit (.bool false)], args := [d1, d2] }
  | _ => none }
def SpanPlaysWrongFalsely : Prop := spanPlaysRow.holds Tryd.pinned (OpenSpec.ofChange spanPlaysWrong)

/- THE SECOND FORM. 'bulk': how many values and letters a reading holds, each counted each time it is reached (what is shared counts as often as it is met; a slice's spare places count too). A statement '..UptoSaid' is the law's where the arguments, and the package variables that the reading takes, are together of bulk at most 1048576: NARROWER than '..Said'. Prove '..Said' where nothing that the law and all that it calls make is longer than what came in: it says more and counts as full. Else prove '..UptoSaid'. A law counts once. -/
mutual
def uptoBulk {H : Type} : DataW H → Nat
  | .lit (.string bytes) => bytes.length + 1
  | .lit _ => 1
  | .nil => 1
  | .ptr d => uptoBulk d + 1
  | .slice elems spare => uptoBulkAll elems + uptoBulkAll spare + 1
  | .agg parts => uptoBulkAll parts + 1
  | .iface _ d => uptoBulk d + 1
  | .map entries => uptoBulkEntries entries + 1
  | .held _ => 1
def uptoBulkAll {H : Type} : List (DataW H) → Nat
  | [] => 0
  | d :: r => uptoBulk d + uptoBulkAll r
def uptoBulkEntries {H : Type} : List (Lit × DataW H) → Nat
  | [] => 0
  | x :: r => uptoBulkEntry x + uptoBulkEntries r
def uptoBulkEntry {H : Type} : Lit × DataW H → Nat
  | (.string bytes, d) => bytes.length + uptoBulk d + 1
  | (_, d) => uptoBulk d + 1
 end
def uptoSmall : (H : Type) → List (DataW H) → Bool := fun _ ds => decide (uptoBulkAll ds ≤ 1048576)
def OpenSpec.upto (s : _root_.Go.ChangeSpec) : _root_.Go.OpenSpec := { _root_.Go.OpenSpec.ofChange s with cond := some uptoSmall }

/-- 'hayloftlaw10.SpanPlaces', WHERE WHAT IT READS IS OF BULK AT MOST 1048576: true; the input reads as it did. -/
def spanPlacesUptoRow : OpenClaim := { program := "ytmjbnhleakakaaadoor", sum := "c7a7bd24baa9e69006cdcb28ee29d17efd116583d80bd332aa5e3545ab59c4a5", func := "hayloft/hayloftlaw10.SpanPlaces", spec := "spanPlaces", named := ["math/bits.deBruijn64tab"], apart := false, laid := [("math/bits.deBruijn64tab", laid_math_bits_deBruijn64tab)], narrowed := true }
def SpanPlacesUptoSaid : Prop := spanPlacesUptoRow.holds Tryd.pinned (OpenSpec.upto spanPlacesSpec)

/-- 'hayloftlaw10.SpanBack', WHERE WHAT IT READS IS OF BULK AT MOST 1048576: true; the input reads as it did. -/
def spanBackUptoRow : OpenClaim := { program := "ytmjbnhleakakaaadoor", sum := "c7a7bd24baa9e69006cdcb28ee29d17efd116583d80bd332aa5e3545ab59c4a5", func := "hayloft/hayloftlaw10.SpanBack", spec := "spanBack", named := ["math/bits.deBruijn64tab"], apart := false, laid := [("math/bits.deBruijn64tab", laid_math_bits_deBruijn64tab)], narrowed := true }
def SpanBackUptoSaid : Prop := spanBackUptoRow.holds Tryd.pinned (OpenSpec.upto spanBackSpec)

/-- 'hayloftlaw10.SpanFills', WHERE WHAT IT READS IS OF BULK AT MOST 1048576: true; the input reads as it did. -/
def spanFillsUptoRow : OpenClaim := { program := "ytmjbnhleakakaaadoor", sum := "c7a7bd24baa9e69006cdcb28ee29d17efd116583d80bd332aa5e3545ab59c4a5", func := "hayloft/hayloftlaw10.SpanFills", spec := "spanFills", named := ["math/bits.deBruijn64tab"], apart := false, laid := [("math/bits.deBruijn64tab", laid_math_bits_deBruijn64tab)], narrowed := true }
def SpanFillsUptoSaid : Prop := spanFillsUptoRow.holds Tryd.pinned (OpenSpec.upto spanFillsSpec)

/-- 'hayloftlaw10.SpanMakes', WHERE WHAT IT READS IS OF BULK AT MOST 1048576: true; the input reads as it did. -/
def spanMakesUptoRow : OpenClaim := { program := "ytmjbnhleakakaaadoor", sum := "c7a7bd24baa9e69006cdcb28ee29d17efd116583d80bd332aa5e3545ab59c4a5", func := "hayloft/hayloftlaw10.SpanMakes", spec := "spanMakes", named := ["math/bits.deBruijn64tab"], apart := false, laid := [("math/bits.deBruijn64tab", laid_math_bits_deBruijn64tab)], narrowed := true }
def SpanMakesUptoSaid : Prop := spanMakesUptoRow.holds Tryd.pinned (OpenSpec.upto spanMakesSpec)

/-- 'hayloftlaw10.SpanNil', WHERE WHAT IT READS IS OF BULK AT MOST 1048576: true; the input reads as it did. -/
def spanNilUptoRow : OpenClaim := { program := "ytmjbnhleakakaaadoor", sum := "c7a7bd24baa9e69006cdcb28ee29d17efd116583d80bd332aa5e3545ab59c4a5", func := "hayloft/hayloftlaw10.SpanNil", spec := "spanNil", named := ["math/bits.deBruijn64tab"], apart := false, laid := [("math/bits.deBruijn64tab", laid_math_bits_deBruijn64tab)], narrowed := true }
def SpanNilUptoSaid : Prop := spanNilUptoRow.holds Tryd.pinned (OpenSpec.upto spanNilSpec)

/-- 'hayloftlaw10.SpanPlays', WHERE WHAT IT READS IS OF BULK AT MOST 1048576: true; the input reads as it did. -/
def spanPlaysUptoRow : OpenClaim := { program := "ytmjbnhleakakaaadoor", sum := "c7a7bd24baa9e69006cdcb28ee29d17efd116583d80bd332aa5e3545ab59c4a5", func := "hayloft/hayloftlaw10.SpanPlays", spec := "spanPlays", named := ["math/bits.deBruijn64tab"], apart := false, laid := [("math/bits.deBruijn64tab", laid_math_bits_deBruijn64tab)], narrowed := true }
def SpanPlaysUptoSaid : Prop := spanPlaysUptoRow.holds Tryd.pinned (OpenSpec.upto spanPlaysSpec)

end Rows
end Go.Proofs.YtmjbnhleakakaaaDoor
