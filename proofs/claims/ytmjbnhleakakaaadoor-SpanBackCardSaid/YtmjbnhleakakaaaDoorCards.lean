/-
  DERIVED. GIVEN WITH THE SEED: THE CARDS: each row of YtmjbnhleakakaaaDoorRows.lean that lists a variable, with what it lists TIED to the program's text (the seventh form; the later family's looks); each row that meets fmt, with fmt's text TOLD by the authors' own Lean function (tested against real Go, not proved from fmt's source: count such statements apart). THE CARD IS WHAT COUNTS. Prove the row's statement (the work); the ties are given (YtmjbnhleakakaaaDoorTie.lean); close each card by the builder's one call (the guide's Derived/Test/ToyasCard.lean, 'card_holds'). Laid BY PROGRAM, IN A SANDBOX (cutbox-door.mjs). By AI agents, Wed Nov 11 2026. No macro, syntax, notation, axiom, sorry.
-/
import Derived.Test.YtmjbnhleakakaaaDoorRows
import GoSem.ClaimSeven
namespace Go.Proofs.YtmjbnhleakakaaaDoor
namespace Rows

/-- THE TIED CARD OF 'hayloftlaw10.SpanPlaces'. -/
def spanPlacesCard : Claim7 := { stood := { row := spanPlacesRow, standIns := [], harness := (true, "1341bf95c6f56c1ce0014634c358d0368e06a1904117d1b05bf67b385e25018b"), looks := false }, kinds := [], alts := [], laidByText := true, laidKinds := [.data], laidTests := true, laidLooks := .later }
def SpanPlacesCardSaid : Prop := Claim7.holds Tryd.pinned (.plain (OpenSpec.ofChange spanPlacesSpec)) spanPlacesCard

/-- THE TIED CARD OF 'hayloftlaw10.SpanBack'. -/
def spanBackCard : Claim7 := { stood := { row := spanBackRow, standIns := [], harness := (true, "1341bf95c6f56c1ce0014634c358d0368e06a1904117d1b05bf67b385e25018b"), looks := false }, kinds := [], alts := [], laidByText := true, laidKinds := [.data], laidTests := true, laidLooks := .later }
def SpanBackCardSaid : Prop := Claim7.holds Tryd.pinned (.plain (OpenSpec.ofChange spanBackSpec)) spanBackCard

/-- THE TIED CARD OF 'hayloftlaw10.SpanFills'. -/
def spanFillsCard : Claim7 := { stood := { row := spanFillsRow, standIns := [], harness := (true, "1341bf95c6f56c1ce0014634c358d0368e06a1904117d1b05bf67b385e25018b"), looks := false }, kinds := [], alts := [], laidByText := true, laidKinds := [.data], laidTests := true, laidLooks := .later }
def SpanFillsCardSaid : Prop := Claim7.holds Tryd.pinned (.plain (OpenSpec.ofChange spanFillsSpec)) spanFillsCard

/-- THE TIED CARD OF 'hayloftlaw10.SpanMakes'. -/
def spanMakesCard : Claim7 := { stood := { row := spanMakesRow, standIns := [], harness := (true, "1341bf95c6f56c1ce0014634c358d0368e06a1904117d1b05bf67b385e25018b"), looks := false }, kinds := [], alts := [], laidByText := true, laidKinds := [.data], laidTests := true, laidLooks := .later }
def SpanMakesCardSaid : Prop := Claim7.holds Tryd.pinned (.plain (OpenSpec.ofChange spanMakesSpec)) spanMakesCard

/-- THE TIED CARD OF 'hayloftlaw10.SpanNil'. -/
def spanNilCard : Claim7 := { stood := { row := spanNilRow, standIns := [], harness := (true, "1341bf95c6f56c1ce0014634c358d0368e06a1904117d1b05bf67b385e25018b"), looks := false }, kinds := [], alts := [], laidByText := true, laidKinds := [.data], laidTests := true, laidLooks := .later }
def SpanNilCardSaid : Prop := Claim7.holds Tryd.pinned (.plain (OpenSpec.ofChange spanNilSpec)) spanNilCard

/-- THE TIED CARD OF 'hayloftlaw10.SpanPlays'. -/
def spanPlaysCard : Claim7 := { stood := { row := spanPlaysRow, standIns := [], harness := (true, "1341bf95c6f56c1ce0014634c358d0368e06a1904117d1b05bf67b385e25018b"), looks := false }, kinds := [], alts := [], laidByText := true, laidKinds := [.data], laidTests := true, laidLooks := .later }
def SpanPlaysCardSaid : Prop := Claim7.holds Tryd.pinned (.plain (OpenSpec.ofChange spanPlaysSpec)) spanPlaysCard

/-- THE SECOND FORM's CARD OF 'hayloftlaw10.SpanPlaces'. -/
def spanPlacesUptoCard : Claim7 := { stood := { row := spanPlacesUptoRow, standIns := [], harness := (true, "1341bf95c6f56c1ce0014634c358d0368e06a1904117d1b05bf67b385e25018b"), looks := false }, kinds := [], alts := [], laidByText := true, laidKinds := [.data], laidTests := true, laidLooks := .later }
def SpanPlacesUptoCardSaid : Prop := Claim7.holds Tryd.pinned (.plain (OpenSpec.upto spanPlacesSpec)) spanPlacesUptoCard

/-- THE SECOND FORM's CARD OF 'hayloftlaw10.SpanBack'. -/
def spanBackUptoCard : Claim7 := { stood := { row := spanBackUptoRow, standIns := [], harness := (true, "1341bf95c6f56c1ce0014634c358d0368e06a1904117d1b05bf67b385e25018b"), looks := false }, kinds := [], alts := [], laidByText := true, laidKinds := [.data], laidTests := true, laidLooks := .later }
def SpanBackUptoCardSaid : Prop := Claim7.holds Tryd.pinned (.plain (OpenSpec.upto spanBackSpec)) spanBackUptoCard

/-- THE SECOND FORM's CARD OF 'hayloftlaw10.SpanFills'. -/
def spanFillsUptoCard : Claim7 := { stood := { row := spanFillsUptoRow, standIns := [], harness := (true, "1341bf95c6f56c1ce0014634c358d0368e06a1904117d1b05bf67b385e25018b"), looks := false }, kinds := [], alts := [], laidByText := true, laidKinds := [.data], laidTests := true, laidLooks := .later }
def SpanFillsUptoCardSaid : Prop := Claim7.holds Tryd.pinned (.plain (OpenSpec.upto spanFillsSpec)) spanFillsUptoCard

/-- THE SECOND FORM's CARD OF 'hayloftlaw10.SpanMakes'. -/
def spanMakesUptoCard : Claim7 := { stood := { row := spanMakesUptoRow, standIns := [], harness := (true, "1341bf95c6f56c1ce0014634c358d0368e06a1904117d1b05bf67b385e25018b"), looks := false }, kinds := [], alts := [], laidByText := true, laidKinds := [.data], laidTests := true, laidLooks := .later }
def SpanMakesUptoCardSaid : Prop := Claim7.holds Tryd.pinned (.plain (OpenSpec.upto spanMakesSpec)) spanMakesUptoCard

/-- THE SECOND FORM's CARD OF 'hayloftlaw10.SpanNil'. -/
def spanNilUptoCard : Claim7 := { stood := { row := spanNilUptoRow, standIns := [], harness := (true, "1341bf95c6f56c1ce0014634c358d0368e06a1904117d1b05bf67b385e25018b"), looks := false }, kinds := [], alts := [], laidByText := true, laidKinds := [.data], laidTests := true, laidLooks := .later }
def SpanNilUptoCardSaid : Prop := Claim7.holds Tryd.pinned (.plain (OpenSpec.upto spanNilSpec)) spanNilUptoCard

/-- THE SECOND FORM's CARD OF 'hayloftlaw10.SpanPlays'. -/
def spanPlaysUptoCard : Claim7 := { stood := { row := spanPlaysUptoRow, standIns := [], harness := (true, "1341bf95c6f56c1ce0014634c358d0368e06a1904117d1b05bf67b385e25018b"), looks := false }, kinds := [], alts := [], laidByText := true, laidKinds := [.data], laidTests := true, laidLooks := .later }
def SpanPlaysUptoCardSaid : Prop := Claim7.holds Tryd.pinned (.plain (OpenSpec.upto spanPlaysSpec)) spanPlaysUptoCard
end Rows
end Go.Proofs.YtmjbnhleakakaaaDoor
