/-
  NARROWER THAN 'FOR EVERY INPUT', by the rows' own cells (each row's printed sentence says how): SlideWhere: laid · SlidePlans: laid · SlideKeeps: laid · SlideAgain: laid · SlideTight: laid.
  DERIVED. THE GIVEN ROWS OF THIS SEAT. 5 by the template 'for every input the law returns true; each argument reads behind the call as it read before'; 0 by the template 'total and deterministic' (their statements: YtklmaeefnmcmlaaDoorTotals.lean).
  GIVEN WITH THE SEED: the statements are not yours to turn. If you find one false, say at which input.
  Laid BY PROGRAM, IN A SANDBOX (cutbox-rows.mjs): the forced cells as the released guide's own fill.sh prints them over the translation 3445dd350124653a… (all of the seat's roots in one cut). By AI agents, Wed Nov 11 2026. No macro, syntax, notation, axiom, sorry.
-/
import Derived.Test.YtklmaeefnmcmlaaDoorChecked
import GoSem.Claim
import GoSem.ClaimJoined
import GoSem.ClaimMapViews
import Derived.JoinedTies
import Derived.KernelRfl
namespace Go.Proofs.YtklmaeefnmcmlaaDoor
/- THE CELL 'sum', in the pinned program and in every row, IS THE sha256 OF THE DUMP (.gsa) THAT YtklmaeefnmcmlaaDoorProg.lean LOADS. Nothing in Lean hashes anything: it is a label: what it is worth is what the hold of that sum in a sandbox is worth. -/
noncomputable def Tryd.pinned : Pinned := { name := "ytklmaeefnmcmlaadoor", sum := "3445dd350124653aaf13f82be3b713a58e52b06e5aae38a152db25d040534ae9", checked := Tryd.checked }
namespace Rows
def none {H : Type} : Left H := { results := [], args := [] }

/- WHAT THE LISTED PACKAGE-LEVEL VARIABLES READ AS WHEN THE CALL BEGINS. Each datum BY PROGRAM (the guide's laid-datum.mjs) off the statement by which the dump's own 'gosem.cut.vars' lays the variable. In a bare row this is a premise. The card (YtklmaeefnmcmlaaDoorCards.lean) ties it to the program's text. -/
def laid_math_bits_deBruijn64tab {H : Type} : DataW H := .agg [.lit (.int .u8 0), .lit (.int .u8 1), .lit (.int .u8 56), .lit (.int .u8 2), .lit (.int .u8 57), .lit (.int .u8 49), .lit (.int .u8 28), .lit (.int .u8 3), .lit (.int .u8 61), .lit (.int .u8 58), .lit (.int .u8 42), .lit (.int .u8 50), .lit (.int .u8 38), .lit (.int .u8 29), .lit (.int .u8 17), .lit (.int .u8 4), .lit (.int .u8 62), .lit (.int .u8 47), .lit (.int .u8 59), .lit (.int .u8 36), .lit (.int .u8 45), .lit (.int .u8 43), .lit (.int .u8 51), .lit (.int .u8 22), .lit (.int .u8 53), .lit (.int .u8 39), .lit (.int .u8 33), .lit (.int .u8 30), .lit (.int .u8 24), .lit (.int .u8 18), .lit (.int .u8 12), .lit (.int .u8 5), .lit (.int .u8 63), .lit (.int .u8 55), .lit (.int .u8 48), .lit (.int .u8 27), .lit (.int .u8 60), .lit (.int .u8 41), .lit (.int .u8 37), .lit (.int .u8 16), .lit (.int .u8 46), .lit (.int .u8 35), .lit (.int .u8 44), .lit (.int .u8 21), .lit (.int .u8 52), .lit (.int .u8 32), .lit (.int .u8 23), .lit (.int .u8 11), .lit (.int .u8 54), .lit (.int .u8 26), .lit (.int .u8 40), .lit (.int .u8 15), .lit (.int .u8 34), .lit (.int .u8 20), .lit (.int .u8 31), .lit (.int .u8 10), .lit (.int .u8 25), .lit (.int .u8 14), .lit (.int .u8 19), .lit (.int .u8 9), .lit (.int .u8 13), .lit (.int .u8 8), .lit (.int .u8 7), .lit (.int .u8 6)]

/-- 'hayloftlaw13.SlideWhere': WHATEVER THE INPUT: true; the input reads as it did. -/
def slideWhereSpec : ChangeSpec := { name := "slideWhere", fn := fun _ => fun
  | [d1, d2] => { results := [.lit (.bool true)], args := [d1, d2] }
  | _ => none }
def slideWhereRow : OpenClaim := { program := "ytklmaeefnmcmlaadoor", sum := "3445dd350124653aaf13f82be3b713a58e52b06e5aae38a152db25d040534ae9", func := "hayloft/hayloftlaw13.SlideWhere", spec := "slideWhere", unfollowed := true, recurses := true, named := ["math/bits.deBruijn64tab"], apart := false, laid := [("math/bits.deBruijn64tab", laid_math_bits_deBruijn64tab)] }
def SlideWhereSaid : Prop := slideWhereRow.holds Tryd.pinned (OpenSpec.ofChange slideWhereSpec)

/-- ITS FALSE NEIGHBOUR: 'it returns false'. Refute it at one input. -/
def slideWhereWrong : ChangeSpec := { name := "slideWhere", fn := fun _ => fun
  | [d1, d2] => { results := [.lit (.bool false)], args := [d1, d2] }
  | _ => none }
def SlideWhereWrongFalsely : Prop := slideWhereRow.holds Tryd.pinned (OpenSpec.ofChange slideWhereWrong)

/-- 'hayloftlaw13.SlidePlans': WHATEVER THE INPUT: true; the input reads as it did. -/
def slidePlansSpec : ChangeSpec := { name := "slidePlans", fn := fun _ => fun
  | [d1, d2] => { results := [.lit (.bool true)], args := [d1, d2] }
  | _ => none }
def slidePlansRow : OpenClaim := { program := "ytklmaeefnmcmlaadoor", sum := "3445dd350124653aaf13f82be3b713a58e52b06e5aae38a152db25d040534ae9", func := "hayloft/hayloftlaw13.SlidePlans", spec := "slidePlans", unfollowed := true, recurses := true, named := ["math/bits.deBruijn64tab"], apart := false, laid := [("math/bits.deBruijn64tab", laid_math_bits_deBruijn64tab)] }
def SlidePlansSaid : Prop := slidePlansRow.holds Tryd.pinned (OpenSpec.ofChange slidePlansSpec)

/-- ITS FALSE NEIGHBOUR: 'it returns false'. Refute it at one input. -/
def slidePlansWrong : ChangeSpec := { name := "slidePlans", fn := fun _ => fun
  | [d1, d2] => { results := [.lit (.bool false)], args := [d1, d2] }
  | _ => none }
def SlidePlansWrongFalsely : Prop := slidePlansRow.holds Tryd.pinned (OpenSpec.ofChange slidePlansWrong)

/-- 'hayloftlaw13.SlideKeeps': WHATEVER THE INPUT: true; the input reads as it did. -/
def slideKeepsSpec : ChangeSpec := { name := "slideKeeps", fn := fun _ => fun
  | [d1, d2] => { results := [.lit (.bool true)], args := [d1, d2] }
  | _ => none }
def slideKeepsRow : OpenClaim := { program := "ytklmaeefnmcmlaadoor", sum := "3445dd350124653aaf13f82be3b713a58e52b06e5aae38a152db25d040534ae9", func := "hayloft/hayloftlaw13.SlideKeeps", spec := "slideKeeps", unfollowed := true, recurses := true, named := ["math/bits.deBruijn64tab"], apart := false, laid := [("math/bits.deBruijn64tab", laid_math_bits_deBruijn64tab)] }
def SlideKeepsSaid : Prop := slideKeepsRow.holds Tryd.pinned (OpenSpec.ofChange slideKeepsSpec)

/-- ITS FALSE NEIGHBOUR: 'it returns false'. Refute it at one input. -/
def slideKeepsWrong : ChangeSpec := { name := "slideKeeps", fn := fun _ => fun
  | [d1, d2] => { results := [.lit (.bool false)], args := [d1, d2] }
  | _ => none }
def SlideKeepsWrongFalsely : Prop := slideKeepsRow.holds Tryd.pinned (OpenSpec.ofChange slideKeepsWrong)

/-- 'hayloftlaw13.SlideAgain': WHATEVER THE INPUT: true; the input reads as it did. -/
def slideAgainSpec : ChangeSpec := { name := "slideAgain", fn := fun _ => fun
  | [d1, d2] => { results := [.lit (.bool true)], args := [d1, d2] }
  | _ => none }
def slideAgainRow : OpenClaim := { program := "ytklmaeefnmcmlaadoor", sum := "3445dd350124653aaf13f82be3b713a58e52b06e5aae38a152db25d040534ae9", func := "hayloft/hayloftlaw13.SlideAgain", spec := "slideAgain", unfollowed := true, recurses := true, named := ["math/bits.deBruijn64tab"], apart := false, laid := [("math/bits.deBruijn64tab", laid_math_bits_deBruijn64tab)] }
def SlideAgainSaid : Prop := slideAgainRow.holds Tryd.pinned (OpenSpec.ofChange slideAgainSpec)

/-- ITS FALSE NEIGHBOUR: 'it returns false'. Refute it at one input. -/
def slideAgainWrong : ChangeSpec := { name := "slideAgain", fn := fun _ => fun
  | [d1, d2] => { results := [.lit (.bool false)], args := [d1, d2] }
  | _ => none }
def SlideAgainWrongFalsely : Prop := slideAgainRow.holds Tryd.pinned (OpenSpec.ofChange slideAgainWrong)

/-- 'hayloftlaw13.SlideTight': WHATEVER THE INPUT: true; the input reads as it did. -/
def slideTightSpec : ChangeSpec := { name := "slideTight", fn := fun _ => fun
  | [d1, d2] => { results := [.lit (.bool true)], args := [d1, d2] }
  | _ => none }
def slideTightRow : OpenClaim := { program := "ytklmaeefnmcmlaadoor", sum := "3445dd350124653aaf13f82be3b713a58e52b06e5aae38a152db25d040534ae9", func := "hayloft/hayloftlaw13.SlideTight", spec := "slideTight", unfollowed := true, recurses := true, named := ["math/bits.deBruijn64tab"], apart := false, laid := [("math/bits.deBruijn64tab", laid_math_bits_deBruijn64tab)] }
def SlideTightSaid : Prop := slideTightRow.holds Tryd.pinned (OpenSpec.ofChange slideTightSpec)

/-- ITS FALSE NEIGHBOUR: 'it returns false'. Refute it at one input. -/
def slideTightWrong : ChangeSpec := { name := "slideTight", fn := fun _ => fun
  | [d1, d2] => { results := [.lit (.bool false)], args := [d1, d2] }
  | _ => none }
def SlideTightWrongFalsely : Prop := slideTightRow.holds Tryd.pinned (OpenSpec.ofChange slideTightWrong)

/- THE SECOND FORM. 'bulk': how many values and letters a reading holds, each counted each time it is reached (what is shared counts as often as it is met; a slice's spare places count too). A statement '..UptoSaid' is the law's where the arguments, and the package variables that the reading takes, are together of bulk at most 1048576: NARROWER than '..Said'. Prove '..Said' where nothing that the law and all that it calls make is longer than what came in: it says more and counts as full. Else prove '..UptoSaid'. A law counts once. -/
mutual
def uptoBulk {H : Type} : DataW H → Nat
  | .lit (.string bytes) => bytes.length + 1
  | .lit _ => 1
  | .nil => 1
  | .ptr d => uptoBulk d + 1
  | .slice elems spare => uptoBulkAll elems + uptoBulkAll spare + 1
  | .agg parts => uptoBulkAll parts + 1
  | .iface _ d => uptoBulk d + 1
  | .map entries => uptoBulkEntries entries + 1
  | .held _ => 1
def uptoBulkAll {H : Type} : List (DataW H) → Nat
  | [] => 0
  | d :: r => uptoBulk d + uptoBulkAll r
def uptoBulkEntries {H : Type} : List (Lit × DataW H) → Nat
  | [] => 0
  | x :: r => uptoBulkEntry x + uptoBulkEntries r
def uptoBulkEntry {H : Type} : Lit × DataW H → Nat
  | (.string bytes, d) => bytes.length + uptoBulk d + 1
  | (_, d) => uptoBulk d + 1
 end
def uptoSmall : (H : Type) → List (DataW H) → Bool := fun _ ds => decide (uptoBulkAll ds ≤ 1048576)
def OpenSpec.upto (s : _root_.Go.ChangeSpec) : _root_.Go.OpenSpec := { _root_.Go.OpenSpec.ofChange s with cond := some uptoSmall }

/-- 'hayloftlaw13.SlideWhere', WHERE WHAT IT READS IS OF BULK AT MOST 1048576: true; the input reads as it did. -/
def slideWhereUptoRow : OpenClaim := { program := "ytklmaeefnmcmlaadoor", sum := "3445dd350124653aaf13f82be3b713a58e52b06e5aae38a152db25d040534ae9", func := "hayloft/hayloftlaw13.SlideWhere", spec := "slideWhere", unfollowed := true, recurses := true, named := ["math/bits.deBruijn64tab"], apart := false, laid := [("math/bits.deBruijn64tab", laid_math_bits_deBruijn64tab)], narrowed := true }
def SlideWhereUptoSaid : Prop := slideWhereUptoRow.holds Tryd.pinned (OpenSpec.upto slideWhereSpec)

/-- 'hayloftlaw13.SlidePlans', WHERE WHAT IT READS IS OF BULK AT MOST 1048576: true; the input reads as it did. -/
def slidePlansUptoRow : OpenClaim := { program := "ytklmaeefnmcmlaadoor", sum := "3445dd350124653aaf13f82be3b713a58e52b06e5aae38a152db25d040534ae9", func := "hayloft/hayloftlaw13.SlidePlans", spec := "slidePlans", unfollowed := true, recurses := true, named := ["math/bits.deBruijn64tab"], apart := false, laid := [("math/bits.deBruijn64tab", laid_math_bits_deBruijn64tab)], narrowed := true }
def SlidePlansUptoSaid : Prop := slidePlansUptoRow.holds Tryd.pinned (OpenSpec.upto slidePlansSpec)

/-- 'hayloftlaw13.SlideKeeps', WHERE WHAT IT READS IS OF BULK AT MOST 1048576: true; the input reads as it did. -/
def slideKeepsUptoRow : OpenClaim := { program := "ytklmaeefnmcmlaadoor", sum := "3445dd350124653aaf13f82be3b713a58e52b06e5aae38a152db25d040534ae9", func := "hayloft/hayloftlaw13.SlideKeeps", spec := "slideKeeps", unfollowed := true, recurses := true, named := ["math/bits.deBruijn64tab"], apart := false, laid := [("math/bits.deBruijn64tab", laid_math_bits_deBruijn64tab)], narrowed := true }
def SlideKeepsUptoSaid : Prop := slideKeepsUptoRow.holds Tryd.pinned (OpenSpec.upto slideKeepsSpec)

/-- 'hayloftlaw13.SlideAgain', WHERE WHAT IT READS IS OF BULK AT MOST 1048576: true; the input reads as it did. -/
def slideAgainUptoRow : OpenClaim := { program := "ytklmaeefnmcmlaadoor", sum := "3445dd350124653aaf13f82be3b713a58e52b06e5aae38a152db25d040534ae9", func := "hayloft/hayloftlaw13.SlideAgain", spec := "slideAgain", unfollowed := true, recurses := true, named := ["math/bits.deBruijn64tab"], apart := false, laid := [("math/bits.deBruijn64tab", laid_math_bits_deBruijn64tab)], narrowed := true }
def SlideAgainUptoSaid : Prop := slideAgainUptoRow.holds Tryd.pinned (OpenSpec.upto slideAgainSpec)

/-- 'hayloftlaw13.SlideTight', WHERE WHAT IT READS IS OF BULK AT MOST 1048576: true; the input reads as it did. -/
def slideTightUptoRow : OpenClaim := { program := "ytklmaeefnmcmlaadoor", sum := "3445dd350124653aaf13f82be3b713a58e52b06e5aae38a152db25d040534ae9", func := "hayloft/hayloftlaw13.SlideTight", spec := "slideTight", unfollowed := true, recurses := true, named := ["math/bits.deBruijn64tab"], apart := false, laid := [("math/bits.deBruijn64tab", laid_math_bits_deBruijn64tab)], narrowed := true }
def SlideTightUptoSaid : Prop := slideTightUptoRow.holds Tryd.pinned (OpenSpec.upto slideTightSpec)

end Rows
end Go.Proofs.YtklmaeefnmcmlaaDoor
