/-
  DERIVED. GIVEN WITH THE SEED: THE CARDS: each row of YtogmnhdadggnbaaDoorRows.lean that lists a variable, with what it lists TIED to the program's text (the seventh form; the later family's looks); each row that meets fmt, with fmt's text TOLD by the authors' own Lean function (tested against real Go, not proved from fmt's source: count such statements apart). THE CARD IS WHAT COUNTS. Prove the row's statement (the work); the ties are given (YtogmnhdadggnbaaDoorTie.lean); close each card by the builder's one call (the guide's Derived/Test/ToyasCard.lean, 'card_holds'). Laid BY PROGRAM, IN A SANDBOX (cutbox-door.mjs). By AI agents, Wed Nov 11 2026. No macro, syntax, notation, axiom, sorry.
-/
import Derived.Test.YtogmnhdadggnbaaDoorRows
import GoSem.ClaimSeven
namespace Go.Proofs.YtogmnhdadggnbaaDoor
namespace Rows

/-- THE TIED CARD OF 'hayloftlaw17.ImageWrites'. -/
def imageWritesCard : Claim7 := { stood := { row := imageWritesRow, standIns := [], harness := (true, "83e5a4dca93203916e46666cbfbb9a6f90209c530b0ea5302a4f88a64a64cd4e"), looks := false }, kinds := [], alts := [], laidByText := true, laidKinds := [.data], laidTests := true, laidLooks := .later }
def ImageWritesCardSaid : Prop := Claim7.holds Tryd.pinned (.plain (OpenSpec.ofChange imageWritesSpec)) imageWritesCard

/-- THE TIED CARD OF 'hayloftlaw17.ImageReads'. -/
def imageReadsCard : Claim7 := { stood := { row := imageReadsRow, standIns := [], harness := (true, "83e5a4dca93203916e46666cbfbb9a6f90209c530b0ea5302a4f88a64a64cd4e"), looks := false }, kinds := [], alts := [], laidByText := true, laidKinds := [.data], laidTests := true, laidLooks := .later }
def ImageReadsCardSaid : Prop := Claim7.holds Tryd.pinned (.plain (OpenSpec.ofChange imageReadsSpec)) imageReadsCard

/-- THE TIED CARD OF 'hayloftlaw17.ImageOne'. -/
def imageOneCard : Claim7 := { stood := { row := imageOneRow, standIns := [], harness := (true, "83e5a4dca93203916e46666cbfbb9a6f90209c530b0ea5302a4f88a64a64cd4e"), looks := false }, kinds := [], alts := [], laidByText := true, laidKinds := [.data], laidTests := true, laidLooks := .later }
def ImageOneCardSaid : Prop := Claim7.holds Tryd.pinned (.plain (OpenSpec.ofChange imageOneSpec)) imageOneCard

/-- THE SECOND FORM's CARD OF 'hayloftlaw17.ImageWrites'. -/
def imageWritesUptoCard : Claim7 := { stood := { row := imageWritesUptoRow, standIns := [], harness := (true, "83e5a4dca93203916e46666cbfbb9a6f90209c530b0ea5302a4f88a64a64cd4e"), looks := false }, kinds := [], alts := [], laidByText := true, laidKinds := [.data], laidTests := true, laidLooks := .later }
def ImageWritesUptoCardSaid : Prop := Claim7.holds Tryd.pinned (.plain (OpenSpec.upto imageWritesSpec)) imageWritesUptoCard

/-- THE SECOND FORM's CARD OF 'hayloftlaw17.ImageReads'. -/
def imageReadsUptoCard : Claim7 := { stood := { row := imageReadsUptoRow, standIns := [], harness := (true, "83e5a4dca93203916e46666cbfbb9a6f90209c530b0ea5302a4f88a64a64cd4e"), looks := false }, kinds := [], alts := [], laidByText := true, laidKinds := [.data], laidTests := true, laidLooks := .later }
def ImageReadsUptoCardSaid : Prop := Claim7.holds Tryd.pinned (.plain (OpenSpec.upto imageReadsSpec)) imageReadsUptoCard

/-- THE SECOND FORM's CARD OF 'hayloftlaw17.ImageOne'. -/
def imageOneUptoCard : Claim7 := { stood := { row := imageOneUptoRow, standIns := [], harness := (true, "83e5a4dca93203916e46666cbfbb9a6f90209c530b0ea5302a4f88a64a64cd4e"), looks := false }, kinds := [], alts := [], laidByText := true, laidKinds := [.data], laidTests := true, laidLooks := .later }
def ImageOneUptoCardSaid : Prop := Claim7.holds Tryd.pinned (.plain (OpenSpec.upto imageOneSpec)) imageOneUptoCard
end Rows
end Go.Proofs.YtogmnhdadggnbaaDoor
