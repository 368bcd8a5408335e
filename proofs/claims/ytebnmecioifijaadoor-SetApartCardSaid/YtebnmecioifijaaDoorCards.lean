/-
  DERIVED. GIVEN WITH THE SEED: THE CARDS: each row of YtebnmecioifijaaDoorRows.lean that lists a variable, with what it lists TIED to the program's text (the seventh form; the later family's looks); each row that meets fmt, with fmt's text TOLD by the authors' own Lean function (tested against real Go, not proved from fmt's source: count such statements apart). THE CARD IS WHAT COUNTS. Prove the row's statement (the work); the ties are given (YtebnmecioifijaaDoorTie.lean); close each card by the builder's one call (the guide's Derived/Test/ToyasCard.lean, 'card_holds'). Laid BY PROGRAM, IN A SANDBOX (cutbox-door.mjs). By AI agents, Wed Nov 11 2026. No macro, syntax, notation, axiom, sorry.
-/
import Derived.Test.YtebnmecioifijaaDoorRows
import GoSem.ClaimSeven
namespace Go.Proofs.YtebnmecioifijaaDoor
namespace Rows

/-- THE TIED CARD OF 'hayloftlaw03.SetParts'. -/
def setPartsCard : Claim7 := { stood := { row := setPartsRow, standIns := [], harness := (true, "08967b8e3550471d8992061469e3b6ed488209e274f4e0531e38d90191689608"), looks := false }, kinds := [], alts := [], laidByText := true, laidKinds := [.data], laidTests := true, laidLooks := .later }
def SetPartsCardSaid : Prop := Claim7.holds Tryd.pinned (.plain (OpenSpec.ofChange setPartsSpec)) setPartsCard

/-- THE TIED CARD OF 'hayloftlaw03.SetCounts'. -/
def setCountsCard : Claim7 := { stood := { row := setCountsRow, standIns := [], harness := (true, "08967b8e3550471d8992061469e3b6ed488209e274f4e0531e38d90191689608"), looks := false }, kinds := [], alts := [], laidByText := true, laidKinds := [.data], laidTests := true, laidLooks := .later }
def SetCountsCardSaid : Prop := Claim7.holds Tryd.pinned (.plain (OpenSpec.ofChange setCountsSpec)) setCountsCard

/-- THE TIED CARD OF 'hayloftlaw03.SetPlays'. -/
def setPlaysCard : Claim7 := { stood := { row := setPlaysRow, standIns := [], harness := (true, "08967b8e3550471d8992061469e3b6ed488209e274f4e0531e38d90191689608"), looks := false }, kinds := [], alts := [], laidByText := true, laidKinds := [.data], laidTests := true, laidLooks := .later }
def SetPlaysCardSaid : Prop := Claim7.holds Tryd.pinned (.plain (OpenSpec.ofChange setPlaysSpec)) setPlaysCard

/-- THE TIED CARD OF 'hayloftlaw03.SetApart'. -/
def setApartCard : Claim7 := { stood := { row := setApartRow, standIns := [], harness := (true, "08967b8e3550471d8992061469e3b6ed488209e274f4e0531e38d90191689608"), looks := false }, kinds := [], alts := [], laidByText := true, laidKinds := [.data], laidTests := true, laidLooks := .later }
def SetApartCardSaid : Prop := Claim7.holds Tryd.pinned (.plain (OpenSpec.ofChange setApartSpec)) setApartCard

/-- THE TIED CARD OF 'hayloftlaw03.SetNil'. -/
def setNilCard : Claim7 := { stood := { row := setNilRow, standIns := [], harness := (true, "08967b8e3550471d8992061469e3b6ed488209e274f4e0531e38d90191689608"), looks := false }, kinds := [], alts := [], laidByText := true, laidKinds := [.data], laidTests := true, laidLooks := .later }
def SetNilCardSaid : Prop := Claim7.holds Tryd.pinned (.plain (OpenSpec.ofChange setNilSpec)) setNilCard

/-- THE TIED CARD OF 'hayloftlaw03.SetReads'. -/
def setReadsCard : Claim7 := { stood := { row := setReadsRow, standIns := [], harness := (true, "08967b8e3550471d8992061469e3b6ed488209e274f4e0531e38d90191689608"), looks := false }, kinds := [], alts := [], laidByText := true, laidKinds := [.data], laidTests := true, laidLooks := .later }
def SetReadsCardSaid : Prop := Claim7.holds Tryd.pinned (.plain (OpenSpec.ofChange setReadsSpec)) setReadsCard

/-- THE TIED CARD OF 'hayloftlaw03.SetBack'. -/
def setBackCard : Claim7 := { stood := { row := setBackRow, standIns := [], harness := (true, "08967b8e3550471d8992061469e3b6ed488209e274f4e0531e38d90191689608"), looks := false }, kinds := [], alts := [], laidByText := true, laidKinds := [.data], laidTests := true, laidLooks := .later }
def SetBackCardSaid : Prop := Claim7.holds Tryd.pinned (.plain (OpenSpec.ofChange setBackSpec)) setBackCard

/-- THE SECOND FORM's CARD OF 'hayloftlaw03.SetParts'. -/
def setPartsUptoCard : Claim7 := { stood := { row := setPartsUptoRow, standIns := [], harness := (true, "08967b8e3550471d8992061469e3b6ed488209e274f4e0531e38d90191689608"), looks := false }, kinds := [], alts := [], laidByText := true, laidKinds := [.data], laidTests := true, laidLooks := .later }
def SetPartsUptoCardSaid : Prop := Claim7.holds Tryd.pinned (.plain (OpenSpec.upto setPartsSpec)) setPartsUptoCard

/-- THE SECOND FORM's CARD OF 'hayloftlaw03.SetCounts'. -/
def setCountsUptoCard : Claim7 := { stood := { row := setCountsUptoRow, standIns := [], harness := (true, "08967b8e3550471d8992061469e3b6ed488209e274f4e0531e38d90191689608"), looks := false }, kinds := [], alts := [], laidByText := true, laidKinds := [.data], laidTests := true, laidLooks := .later }
def SetCountsUptoCardSaid : Prop := Claim7.holds Tryd.pinned (.plain (OpenSpec.upto setCountsSpec)) setCountsUptoCard

/-- THE SECOND FORM's CARD OF 'hayloftlaw03.SetPlays'. -/
def setPlaysUptoCard : Claim7 := { stood := { row := setPlaysUptoRow, standIns := [], harness := (true, "08967b8e3550471d8992061469e3b6ed488209e274f4e0531e38d90191689608"), looks := false }, kinds := [], alts := [], laidByText := true, laidKinds := [.data], laidTests := true, laidLooks := .later }
def SetPlaysUptoCardSaid : Prop := Claim7.holds Tryd.pinned (.plain (OpenSpec.upto setPlaysSpec)) setPlaysUptoCard

/-- THE SECOND FORM's CARD OF 'hayloftlaw03.SetApart'. -/
def setApartUptoCard : Claim7 := { stood := { row := setApartUptoRow, standIns := [], harness := (true, "08967b8e3550471d8992061469e3b6ed488209e274f4e0531e38d90191689608"), looks := false }, kinds := [], alts := [], laidByText := true, laidKinds := [.data], laidTests := true, laidLooks := .later }
def SetApartUptoCardSaid : Prop := Claim7.holds Tryd.pinned (.plain (OpenSpec.upto setApartSpec)) setApartUptoCard

/-- THE SECOND FORM's CARD OF 'hayloftlaw03.SetNil'. -/
def setNilUptoCard : Claim7 := { stood := { row := setNilUptoRow, standIns := [], harness := (true, "08967b8e3550471d8992061469e3b6ed488209e274f4e0531e38d90191689608"), looks := false }, kinds := [], alts := [], laidByText := true, laidKinds := [.data], laidTests := true, laidLooks := .later }
def SetNilUptoCardSaid : Prop := Claim7.holds Tryd.pinned (.plain (OpenSpec.upto setNilSpec)) setNilUptoCard

/-- THE SECOND FORM's CARD OF 'hayloftlaw03.SetReads'. -/
def setReadsUptoCard : Claim7 := { stood := { row := setReadsUptoRow, standIns := [], harness := (true, "08967b8e3550471d8992061469e3b6ed488209e274f4e0531e38d90191689608"), looks := false }, kinds := [], alts := [], laidByText := true, laidKinds := [.data], laidTests := true, laidLooks := .later }
def SetReadsUptoCardSaid : Prop := Claim7.holds Tryd.pinned (.plain (OpenSpec.upto setReadsSpec)) setReadsUptoCard

/-- THE SECOND FORM's CARD OF 'hayloftlaw03.SetBack'. -/
def setBackUptoCard : Claim7 := { stood := { row := setBackUptoRow, standIns := [], harness := (true, "08967b8e3550471d8992061469e3b6ed488209e274f4e0531e38d90191689608"), looks := false }, kinds := [], alts := [], laidByText := true, laidKinds := [.data], laidTests := true, laidLooks := .later }
def SetBackUptoCardSaid : Prop := Claim7.holds Tryd.pinned (.plain (OpenSpec.upto setBackSpec)) setBackUptoCard
end Rows
end Go.Proofs.YtebnmecioifijaaDoor
