/-
  DERIVED. GIVEN WITH THE SEED: THE CARDS: each row of YtklmaeefnmcmlaaDoorRows.lean that lists a variable, with what it lists TIED to the program's text (the seventh form; the later family's looks); each row that meets fmt, with fmt's text TOLD by the authors' own Lean function (tested against real Go, not proved from fmt's source: count such statements apart). THE CARD IS WHAT COUNTS. Prove the row's statement (the work); the ties are given (YtklmaeefnmcmlaaDoorTie.lean); close each card by the builder's one call (the guide's Derived/Test/ToyasCard.lean, 'card_holds'). Laid BY PROGRAM, IN A SANDBOX (cutbox-door.mjs). By AI agents, Wed Nov 11 2026. No macro, syntax, notation, axiom, sorry.
-/
import Derived.Test.YtklmaeefnmcmlaaDoorRows
import GoSem.ClaimSeven
namespace Go.Proofs.YtklmaeefnmcmlaaDoor
namespace Rows

/-- THE TIED CARD OF 'hayloftlaw13.SlideWhere'. -/
def slideWhereCard : Claim7 := { stood := { row := slideWhereRow, standIns := [], harness := (true, "8842af1f5768910088ba483294da49fdc1b0fa71a619db348602788e91dc2a4b"), looks := false }, kinds := [], alts := [], laidByText := true, laidKinds := [.data], laidTests := true, laidLooks := .later }
def SlideWhereCardSaid : Prop := Claim7.holds Tryd.pinned (.plain (OpenSpec.ofChange slideWhereSpec)) slideWhereCard

/-- THE TIED CARD OF 'hayloftlaw13.SlidePlans'. -/
def slidePlansCard : Claim7 := { stood := { row := slidePlansRow, standIns := [], harness := (true, "8842af1f5768910088ba483294da49fdc1b0fa71a619db348602788e91dc2a4b"), looks := false }, kinds := [], alts := [], laidByText := true, laidKinds := [.data], laidTests := true, laidLooks := .later }
def SlidePlansCardSaid : Prop := Claim7.holds Tryd.pinned (.plain (OpenSpec.ofChange slidePlansSpec)) slidePlansCard

/-- THE TIED CARD OF 'hayloftlaw13.SlideKeeps'. -/
def slideKeepsCard : Claim7 := { stood := { row := slideKeepsRow, standIns := [], harness := (true, "8842af1f5768910088ba483294da49fdc1b0fa71a619db348602788e91dc2a4b"), looks := false }, kinds := [], alts := [], laidByText := true, laidKinds := [.data], laidTests := true, laidLooks := .later }
def SlideKeepsCardSaid : Prop := Claim7.holds Tryd.pinned (.plain (OpenSpec.ofChange slideKeepsSpec)) slideKeepsCard

/-- THE TIED CARD OF 'hayloftlaw13.SlideAgain'. -/
def slideAgainCard : Claim7 := { stood := { row := slideAgainRow, standIns := [], harness := (true, "8842af1f5768910088ba483294da49fdc1b0fa71a619db348602788e91dc2a4b"), looks := false }, kinds := [], alts := [], laidByText := true, laidKinds := [.data], laidTests := true, laidLooks := .later }
def SlideAgainCardSaid : Prop := Claim7.holds Tryd.pinned (.plain (OpenSpec.ofChange slideAgainSpec)) slideAgainCard

/-- THE TIED CARD OF 'hayloftlaw13.SlideTight'. -/
def slideTightCard : Claim7 := { stood := { row := slideTightRow, standIns := [], harness := (true, "8842af1f5768910088ba483294da49fdc1b0fa71a619db348602788e91dc2a4b"), looks := false }, kinds := [], alts := [], laidByText := true, laidKinds := [.data], laidTests := true, laidLooks := .later }
def SlideTightCardSaid : Prop := Claim7.holds Tryd.pinned (.plain (OpenSpec.ofChange slideTightSpec)) slideTightCard

/-- THE SECOND FORM's CARD OF 'hayloftlaw13.SlideWhere'. -/
def slideWhereUptoCard : Claim7 := { stood := { row := slideWhereUptoRow, standIns := [], harness := (true, "8842af1f5768910088ba483294da49fdc1b0fa71a619db348602788e91dc2a4b"), looks := false }, kinds := [], alts := [], laidByText := true, laidKinds := [.data], laidTests := true, laidLooks := .later }
def SlideWhereUptoCardSaid : Prop := Claim7.holds Tryd.pinned (.plain (OpenSpec.upto slideWhereSpec)) slideWhereUptoCard

/-- THE SECOND FORM's CARD OF 'hayloftlaw13.SlidePlans'. -/
def slidePlansUptoCard : Claim7 := { stood := { row := slidePlansUptoRow, standIns := [], harness := (true, "8842af1f5768910088ba483294da49fdc1b0fa71a619db348602788e91dc2a4b"), looks := false }, kinds := [], alts := [], laidByText := true, laidKinds := [.data], laidTests := true, laidLooks := .later }
def SlidePlansUptoCardSaid : Prop := Claim7.holds Tryd.pinned (.plain (OpenSpec.upto slidePlansSpec)) slidePlansUptoCard

/-- THE SECOND FORM's CARD OF 'hayloftlaw13.SlideKeeps'. -/
def slideKeepsUptoCard : Claim7 := { stood := { row := slideKeepsUptoRow, standIns := [], harness := (true, "8842af1f5768910088ba483294da49fdc1b0fa71a619db348602788e91dc2a4b"), looks := false }, kinds := [], alts := [], laidByText := true, laidKinds := [.data], laidTests := true, laidLooks := .later }
def SlideKeepsUptoCardSaid : Prop := Claim7.holds Tryd.pinned (.plain (OpenSpec.upto slideKeepsSpec)) slideKeepsUptoCard

/-- THE SECOND FORM's CARD OF 'hayloftlaw13.SlideAgain'. -/
def slideAgainUptoCard : Claim7 := { stood := { row := slideAgainUptoRow, standIns := [], harness := (true, "8842af1f5768910088ba483294da49fdc1b0fa71a619db348602788e91dc2a4b"), looks := false }, kinds := [], alts := [], laidByText := true, laidKinds := [.data], laidTests := true, laidLooks := .later }
def SlideAgainUptoCardSaid : Prop := Claim7.holds Tryd.pinned (.plain (OpenSpec.upto slideAgainSpec)) slideAgainUptoCard

/-- THE SECOND FORM's CARD OF 'hayloftlaw13.SlideTight'. -/
def slideTightUptoCard : Claim7 := { stood := { row := slideTightUptoRow, standIns := [], harness := (true, "8842af1f5768910088ba483294da49fdc1b0fa71a619db348602788e91dc2a4b"), looks := false }, kinds := [], alts := [], laidByText := true, laidKinds := [.data], laidTests := true, laidLooks := .later }
def SlideTightUptoCardSaid : Prop := Claim7.holds Tryd.pinned (.plain (OpenSpec.upto slideTightSpec)) slideTightUptoCard
end Rows
end Go.Proofs.YtklmaeefnmcmlaaDoor
