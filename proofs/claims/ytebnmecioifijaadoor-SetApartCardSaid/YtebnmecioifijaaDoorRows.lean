/-
  NARROWER THAN 'FOR EVERY INPUT', by the rows' own cells (each row's printed sentence says how): SetParts: laid · SetCounts: laid · SetPlays: laid · SetApart: laid · SetNil: laid · SetReads: laid · SetBack: laid.
  DERIVED. THE GIVEN ROWS OF THIS SEAT. 7 by the template 'for every input the law returns true; each argument reads behind the call as it read before'; 0 by the template 'total and deterministic' (their statements: YtebnmecioifijaaDoorTotals.lean).
  GIVEN WITH THE SEED: the statements are not yours to turn. If you find one false, say at which input.
  Laid BY PROGRAM, IN A SANDBOX (cutbox-rows.mjs): the forced cells as the released guide's own fill.sh prints them over the translation 582f614ad98fbf8c… (all of the seat's roots in one cut). By AI agents, Wed Nov 11 2026. No macro, syntax, notation, axiom, sorry.
-/
import Derived.Test.YtebnmecioifijaaDoorChecked
import GoSem.Claim
import GoSem.ClaimJoined
import GoSem.ClaimMapViews
import Derived.JoinedTies
import Derived.KernelRfl
namespace Go.Proofs.YtebnmecioifijaaDoor
/- THE CELL 'sum', in the pinned program and in every row, IS THE sha256 OF THE DUMP (.gsa) THAT YtebnmecioifijaaDoorProg.lean LOADS. Nothing in Lean hashes anything: it is a label: what it is worth is what the hold of that sum in a sandbox is worth. -/
noncomputable def Tryd.pinned : Pinned := { name := "ytebnmecioifijaadoor", sum := "582f614ad98fbf8c3886d614c38a09609a7ad74e8a53fc3a331ad31541cbba0c", checked := Tryd.checked }
namespace Rows
def none {H : Type} : Left H := { results := [], args := [] }

/- WHAT THE LISTED PACKAGE-LEVEL VARIABLES READ AS WHEN THE CALL BEGINS. Each datum BY PROGRAM (the guide's laid-datum.mjs) off the statement by which the dump's own 'gosem.cut.vars' lays the variable. In a bare row this is a premise. The card (YtebnmecioifijaaDoorCards.lean) ties it to the program's text. -/
def laid_math_bits_deBruijn64tab {H : Type} : DataW H := .agg [.lit (.int .u8 0), .lit (.int .u8 1), .lit (.int .u8 56), .lit (.int .u8 2), .lit (.int .u8 57), .lit (.int .u8 49), .lit (.int .u8 28), .lit (.int .u8 3), .lit (.int .u8 61), .lit (.int .u8 58), .lit (.int .u8 42), .lit (.int .u8 50), .lit (.int .u8 38), .lit (.int .u8 29), .lit (.int .u8 17), .lit (.int .u8 4), .lit (.int .u8 62), .lit (.int .u8 47), .lit (.int .u8 59), .lit (.int .u8 36), .lit (.int .u8 45), .lit (.int .u8 43), .lit (.int .u8 51), .lit (.int .u8 22), .lit (.int .u8 53), .lit (.int .u8 39), .lit (.int .u8 33), .lit (.int .u8 30), .lit (.int .u8 24), .lit (.int .u8 18), .lit (.int .u8 12), .lit (.int .u8 5), .lit (.int .u8 63), .lit (.int .u8 55), .lit (.int .u8 48), .lit (.int .u8 27), .lit (.int .u8 60), .lit (.int .u8 41), .lit (.int .u8 37), .lit (.int .u8 16), .lit (.int .u8 46), .lit (.int .u8 35), .lit (.int .u8 44), .lit (.int .u8 21), .lit (.int .u8 52), .lit (.int .u8 32), .lit (.int .u8 23), .lit (.int .u8 11), .lit (.int .u8 54), .lit (.int .u8 26), .lit (.int .u8 40), .lit (.int .u8 15), .lit (.int .u8 34), .lit (.int .u8 20), .lit (.int .u8 31), .lit (.int .u8 10), .lit (.int .u8 25), .lit (.int .u8 14), .lit (.int .u8 19), .lit (.int .u8 9), .lit (.int .u8 13), .lit (.int .u8 8), .lit (.int .u8 7), .lit (.int .u8 6)]

/-- 'hayloftlaw03.SetParts': WHATEVER THE INPUT: true; the input reads as it did. -/
def setPartsSpec : ChangeSpec := { name := "setParts", fn := fun _ => fun
  | [d1, d2] => { results := [.lit (.bool true)], args := [d1, d2] }
  | _ => none }
def setPartsRow : OpenClaim := { program := "ytebnmecioifijaadoor", sum := "582f614ad98fbf8c3886d614c38a09609a7ad74e8a53fc3a331ad31541cbba0c", func := "hayloft/hayloftlaw03.SetParts", spec := "setParts", named := ["math/bits.deBruijn64tab"], apart := false, laid := [("math/bits.deBruijn64tab", laid_math_bits_deBruijn64tab)] }
def SetPartsSaid : Prop := setPartsRow.holds Tryd.pinned (OpenSpec.ofChange setPartsSpec)

/-- ITS FALSE NEIGHBOUR: 'it returns false'. Refute it at one input. -/
def setPartsWrong : ChangeSpec := { name := "setParts", fn := fun _ => fun
  | [d1, d2] => { results := [.lit (.bool false)], args := [d1, d2] }
  | _ => none }
def SetPartsWrongFalsely : Prop := setPartsRow.holds Tryd.pinned (OpenSpec.ofChange setPartsWrong)

/-- 'hayloftlaw03.SetCounts': WHATEVER THE INPUT: true; the input reads as it did. -/
def setCountsSpec : ChangeSpec := { name := "setCounts", fn := fun _ => fun
  | [d1, d2] => { results := [.lit (.bool true)], args := [d1, d2] }
  | _ => none }
def setCountsRow : OpenClaim := { program := "ytebnmecioifijaadoor", sum := "582f614ad98fbf8c3886d614c38a09609a7ad74e8a53fc3a331ad31541cbba0c", func := "hayloft/hayloftlaw03.SetCounts", spec := "setCounts", named := ["math/bits.deBruijn64tab"], apart := false, laid := [("math/bits.deBruijn64tab", laid_math_bits_deBruijn64tab)] }
def SetCountsSaid : Prop := setCountsRow.holds Tryd.pinned (OpenSpec.ofChange setCountsSpec)

/-- ITS FALSE NEIGHBOUR: 'it returns false'. Refute it at one input. -/
def setCountsWrong : ChangeSpec := { name := "setCounts", fn := fun _ => fun
  | [d1, d2] => { results := [.lit (.bool false)], args := [d1, d2] }
  | _ => none }
def SetCountsWrongFalsely : Prop := setCountsRow.holds Tryd.pinned (OpenSpec.ofChange setCountsWrong)

/-- 'hayloftlaw03.SetPlays': WHATEVER THE INPUT: true; the input reads as it did. -/
def setPlaysSpec : ChangeSpec := { name := "setPlays", fn := fun _ => fun
  | [d1, d2] => { results := [.lit (.bool true)], args := [d1, d2] }
  | _ => none }
def setPlaysRow : OpenClaim := { program := "ytebnmecioifijaadoor", sum := "582f614ad98fbf8c3886d614c38a09609a7ad74e8a53fc3a331ad31541cbba0c", func := "hayloft/hayloftlaw03.SetPlays", spec := "setPlays", named := ["math/bits.deBruijn64tab"], apart := false, laid := [("math/bits.deBruijn64tab", laid_math_bits_deBruijn64tab)] }
def SetPlaysSaid : Prop := setPlaysRow.holds Tryd.pinned (OpenSpec.ofChange setPlaysSpec)

/-- ITS FALSE NEIGHBOUR: 'it returns false'. Refute it at one input. -/
def setPlaysWrong : ChangeSpec := { name := "setPlays", fn := fun _ => fun
  | [d1, d2] => { results := [.lit (.bool false)], args := [d1, d2] }
  | _ => none }
def SetPlaysWrongFalsely : Prop := setPlaysRow.holds Tryd.pinned (OpenSpec.ofChange setPlaysWrong)

/-- 'hayloftlaw03.SetApart': WHATEVER THE INPUT: true; the input reads as it did. -/
def setApartSpec : ChangeSpec := { name := "setApart", fn := fun _ => fun
  | [d1, d2, d3] => { results := [.lit (.bool true)], args := [d1, d2, d3] }
  | _ => none }
def setApartRow : OpenClaim := { program := "ytebnmecioifijaadoor", sum := "582f614ad98fbf8c3886d614c38a09609a7ad74e8a53fc3a331ad31541cbba0c", func := "hayloft/hayloftlaw03.SetApart", spec := "setApart", named := ["math/bits.deBruijn64tab"], apart := false, laid := [("math/bits.deBruijn64tab", laid_math_bits_deBruijn64tab)] }
def SetApartSaid : Prop := setApartRow.holds Tryd.pinned (OpenSpec.ofChange setApartSpec)

/-- ITS FALSE NEIGHBOUR: 'it returns false'. Refute it at one input. -/
def setApartWrong : ChangeSpec := { name := "setApart", fn := fun _ => fun
  | [d1, d2, d3] => { results := [.lit (.bool false)], args := [d1, d2, d3] }
  | _ => none }
def SetApartWrongFalsely : Prop := setApartRow.holds Tryd.pinned (OpenSpec.ofChange setApartWrong)

/-- 'hayloftlaw03.SetNil': WHATEVER THE INPUT: true; the input reads as it did. -/
def setNilSpec : ChangeSpec := { name := "setNil", fn := fun _ => fun
  | [d] => { results := [.lit (.bool true)], args := [d] }
  | _ => none }
def setNilRow : OpenClaim := { program := "ytebnmecioifijaadoor", sum := "582f614ad98fbf8c3886d614c38a09609a7ad74e8a53fc3a331ad31541cbba0c", func := "hayloft/hayloftlaw03.SetNil", spec := "setNil", named := ["math/bits.deBruijn64tab"], apart := false, laid := [("math/bits.deBruijn64tab", laid_math_bits_deBruijn64tab)] }
def SetNilSaid : Prop := setNilRow.holds Tryd.pinned (OpenSpec.ofChange setNilSpec)

/-- ITS FALSE NEIGHBOUR: 'it returns false'. Refute it at one input. -/
def setNilWrong : ChangeSpec := { name := "setNil", fn := fun _ => fun
  | [d] => { results := [.lit (.bool false)], args := [d] }
  | _ => none }
def SetNilWrongFalsely : Prop := setNilRow.holds Tryd.pinned (OpenSpec.ofChange setNilWrong)

/-- 'hayloftlaw03.SetReads': WHATEVER THE INPUT: true; the input reads as it did. -/
def setReadsSpec : ChangeSpec := { name := "setReads", fn := fun _ => fun
  | [d1, d2] => { results := [.lit (.bool true)], args := [d1, d2] }
  | _ => none }
def setReadsRow : OpenClaim := { program := "ytebnmecioifijaadoor", sum := "582f614ad98fbf8c3886d614c38a09609a7ad74e8a53fc3a331ad31541cbba0c", func := "hayloft/hayloftlaw03.SetReads", spec := "setReads", named := ["math/bits.deBruijn64tab"], apart := false, laid := [("math/bits.deBruijn64tab", laid_math_bits_deBruijn64tab)] }
def SetReadsSaid : Prop := setReadsRow.holds Tryd.pinned (OpenSpec.ofChange setReadsSpec)

/-- ITS FALSE NEIGHBOUR: 'it returns false'. Refute it at one input. -/
def setReadsWrong : ChangeSpec := { name := "setReads", fn := fun _ => fun
  | [d1, d2] => { results := [.lit (.bool false)], args := [d1, d2] }
  | _ => none }
def SetReadsWrongFalsely : Prop := setReadsRow.holds Tryd.pinned (OpenSpec.ofChange setReadsWrong)

/-- 'hayloftlaw03.SetBack': WHATEVER THE INPUT: true; the input reads as it did. -/
def setBackSpec : ChangeSpec := { name := "setBack", fn := fun _ => fun
  | [d1, d2] => { results := [.lit (.bool true)], args := [d1, d2] }
  | _ => none }
def setBackRow : OpenClaim := { program := "ytebnmecioifijaadoor", sum := "582f614ad98fbf8c3886d614c38a09609a7ad74e8a53fc3a331ad31541cbba0c", func := "hayloft/hayloftlaw03.SetBack", spec := "setBack", named := ["math/bits.deBruijn64tab"], apart := false, laid := [("math/bits.deBruijn64tab", laid_math_bits_deBruijn64tab)] }
def SetBackSaid : Prop := setBackRow.holds Tryd.pinned (OpenSpec.ofChange setBackSpec)

/-- ITS FALSE NEIGHBOUR: 'it returns false'. Refute it at one input. -/
def setBackWrong : ChangeSpec := { name := "setBack", fn := fun _ => fun
  | [d1, d2] => { results := [.lit (.bool false)], args := [d1, d2] }
  | _ => none }
def SetBackWrongFalsely : Prop := setBackRow.holds Tryd.pinned (OpenSpec.ofChange setBackWrong)

/- THE SECOND FORM. 'bulk': how many values and letters a reading holds, each counted each time it is reached (what is shared counts as often as it is met; a slice's spare places count too). A statement '..UptoSaid' is the law's where the arguments, and the package variables that the reading takes, are together of bulk at most 1048576: NARROWER than '..Said'. Prove '..Said' where nothing that the law and all that it calls make is longer than what came in: it says more and counts as full. Else prove '..UptoSaid'. A law counts once. -/
mutual
def uptoBulk {H : Type} : DataW H → Nat
  | .lit (.string bytes) => bytes.length + 1
  | .lit _ => 1
  | .nil => 1
  | .ptr d => uptoBulk d + 1
  | .slice elems spare => uptoBulkAll elems + uptoBulkAll spare + 1
  | .agg parts => uptoBulkAll parts + 1
  | .iface _ d => uptoBulk d + 1
  | .map entries => uptoBulkEntries entries + 1
  | .held _ => 1
def uptoBulkAll {H : Type} : List (DataW H) → Nat
  | [] => 0
  | d :: r => uptoBulk d + uptoBulkAll r
def uptoBulkEntries {H : Type} : List (Lit × DataW H) → Nat
  | [] => 0
  | x :: r => uptoBulkEntry x + uptoBulkEntries r
def uptoBulkEntry {H : Type} : Lit × DataW H → Nat
  | (.string bytes, d) => bytes.length + uptoBulk d + 1
  | (_, d) => uptoBulk d + 1
 end
def uptoSmall : (H : Type) → List (DataW H) → Bool := fun _ ds => decide (uptoBulkAll ds ≤ 1048576)
def OpenSpec.upto (s : _root_.Go.ChangeSpec) : _root_.Go.OpenSpec := { _root_.Go.OpenSpec.ofChange s with cond := some uptoSmall }

/-- 'hayloftlaw03.SetParts', WHERE WHAT IT READS IS OF BULK AT MOST 1048576: true; the input reads as it did. -/
def setPartsUptoRow : OpenClaim := { program := "ytebnmecioifijaadoor", sum := "582f614ad98fbf8c3886d614c38a09609a7ad74e8a53fc3a331ad31541cbba0c", func := "hayloft/hayloftlaw03.SetParts", spec := "setParts", named := ["math/bits.deBruijn64tab"], apart := false, laid := [("math/bits.deBruijn64tab", laid_math_bits_deBruijn64tab)], narrowed := true }
def SetPartsUptoSaid : Prop := setPartsUptoRow.holds Tryd.pinned (OpenSpec.upto setPartsSpec)

/-- 'hayloftlaw03.SetCounts', WHERE WHAT IT READS IS OF BULK AT MOST 1048576: true; the input reads as it did. -/
def setCountsUptoRow : OpenClaim := { program := "ytebnmecioifijaadoor", sum := "582f614ad98fbf8c3886d614c38a09609a7ad74e8a53fc3a331ad31541cbba0c", func := "hayloft/hayloftlaw03.SetCounts", spec := "setCounts", named := ["math/bits.deBruijn64tab"], apart := false, laid := [("math/bits.deBruijn64tab", laid_math_bits_deBruijn64tab)], narrowed := true }
def SetCountsUptoSaid : Prop := setCountsUptoRow.holds Tryd.pinned (OpenSpec.upto setCountsSpec)

/-- 'hayloftlaw03.SetPlays', WHERE WHAT IT READS IS OF BULK AT MOST 1048576: true; the input reads as it did. -/
def setPlaysUptoRow : OpenClaim := { program := "ytebnmecioifijaadoor", sum := "582f614ad98fbf8c3886d614c38a09609a7ad74e8a53fc3a331ad31541cbba0c", func := "hayloft/hayloftlaw03.SetPlays", spec := "setPlays", named := ["math/bits.deBruijn64tab"], apart := false, laid := [("math/bits.deBruijn64tab", laid_math_bits_deBruijn64tab)], narrowed := true }
def SetPlaysUptoSaid : Prop := setPlaysUptoRow.holds Tryd.pinned (OpenSpec.upto setPlaysSpec)

/-- 'hayloftlaw03.SetApart', WHERE WHAT IT READS IS OF BULK AT MOST 1048576: true; the input reads as it did. -/
def setApartUptoRow : OpenClaim := { program := "ytebnmecioifijaadoor", sum := "582f614ad98fbf8c3886d614c38a09609a7ad74e8a53fc3a331ad31541cbba0c", func := "hayloft/hayloftlaw03.SetApart", spec := "setApart", named := ["math/bits.deBruijn64tab"], apart := false, laid := [("math/bits.deBruijn64tab", laid_math_bits_deBruijn64tab)], narrowed := true }
def SetApartUptoSaid : Prop := setApartUptoRow.holds Tryd.pinned (OpenSpec.upto setApartSpec)

/-- 'hayloftlaw03.SetNil', WHERE WHAT IT READS IS OF BULK AT MOST 1048576: true; the input reads as it did. -/
def setNilUptoRow : OpenClaim := { program := "ytebnmecioifijaadoor", sum := "582f614ad98fbf8c3886d614c38a09609a7ad74e8a53fc3a331ad31541cbba0c", func := "hayloft/hayloftlaw03.SetNil", spec := "setNil", named := ["math/bits.deBruijn64tab"], apart := false, laid := [("math/bits.deBruijn64tab", laid_math_bits_deBruijn64tab)], narrowed := true }
def SetNilUptoSaid : Prop := setNilUptoRow.holds Tryd.pinned (OpenSpec.upto setNilSpec)

/-- 'hayloftlaw03.SetReads', WHERE WHAT IT READS IS OF BULK AT MOST 1048576: true; the input reads as it did. -/
def setReadsUptoRow : OpenClaim := { program := "ytebnmecioifijaadoor", sum := "582f614ad98fbf8c3886d614c38a09609a7ad74e8a53fc3a331ad31541cbba0c", func := "hayloft/hayloftlaw03.SetReads", spec := "setReads", named := ["math/bits.deBruijn64tab"], apart := false, laid := [("math/bits.deBruijn64tab", laid_math_bits_deBruijn64tab)], narrowed := true }
def SetReadsUptoSaid : Prop := setReadsUptoRow.holds Tryd.pinned (OpenSpec.upto setReadsSpec)

/-- 'hayloftlaw03.SetBack', WHERE WHAT IT READS IS OF BULK AT MOST 1048576: true; the input reads as it did. -/
def setBackUptoRow : OpenClaim := { program := "ytebnmecioifijaadoor", sum := "582f614ad98fbf8c3886d614c38a09609a7ad74e8a53fc3a331ad31541cbba0c", func := "hayloft/hayloftlaw03.SetBack", spec := "setBack", named := ["math/bits.deBruijn64tab"], apart := false, laid := [("math/bits.deBruijn64tab", laid_math_bits_deBruijn64tab)], narrowed := true }
def SetBackUptoSaid : Prop := setBackUptoRow.holds Tryd.pinned (OpenSpec.upto setBackSpec)

end Rows
end Go.Proofs.YtebnmecioifijaaDoor
