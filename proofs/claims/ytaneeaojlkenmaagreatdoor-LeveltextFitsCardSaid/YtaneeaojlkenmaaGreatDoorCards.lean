/-
  DERIVED. GIVEN WITH THE SEED: THE CARDS: each row of YtaneeaojlkenmaaGreatDoorRows.lean that lists a variable, with what it lists TIED to the program's text (the seventh form; the later family's looks); each row that meets fmt, with fmt's text TOLD by the authors' own Lean function (tested against real Go, not proved from fmt's source: count such statements apart). THE CARD IS WHAT COUNTS. Prove the row's statement (the work); the ties are given (YtaneeaojlkenmaaGreatDoorTie.lean); close each card by the builder's one call (the guide's Derived/Test/ToyasCard.lean, 'card_holds'). Laid BY PROGRAM, IN A SANDBOX (cutbox-door.mjs). By AI agents, Wed Nov 11 2026. No macro, syntax, notation, axiom, sorry.
-/
import Derived.Test.YtaneeaojlkenmaaGreatDoorRows
import GoSem.ClaimSeven
namespace Go.Proofs.YtaneeaojlkenmaaGreatDoor
namespace Rows

/-- THE TIED CARD OF 'obeluslaw10.LeveltextParses'. -/
def leveltextParsesCard : Claim7 := { stood := { row := leveltextParsesRow, standIns := [], harness := (true, "64510c2613d674674cedc3fa80a052dfce67a3ba89212c8b2a0e44c350e3e784"), looks := false }, kinds := [], alts := [], laidByText := true, laidKinds := [.data, .data, .data, .data, .data, .pinned, .pinned], laidTests := true, laidLooks := .later }
def LeveltextParsesCardSaid : Prop := Claim7.holds Tryz.pinned (.plain (OpenSpec.ofChange leveltextParsesSpec)) leveltextParsesCard

/-- THE TIED CARD OF 'obeluslaw10.LeveltextChecks'. -/
def leveltextChecksCard : Claim7 := { stood := { row := leveltextChecksRow, standIns := [], harness := (true, "64510c2613d674674cedc3fa80a052dfce67a3ba89212c8b2a0e44c350e3e784"), looks := false }, kinds := [], alts := [], laidByText := true, laidKinds := [.data, .data, .data, .data, .data, .pinned, .pinned], laidTests := true, laidLooks := .later }
def LeveltextChecksCardSaid : Prop := Claim7.holds Tryz.pinned (.plain (OpenSpec.ofChange leveltextChecksSpec)) leveltextChecksCard

/-- THE TIED CARD OF 'obeluslaw10.LeveltextFills'. -/
def leveltextFillsCard : Claim7 := { stood := { row := leveltextFillsRow, standIns := [], harness := (true, "64510c2613d674674cedc3fa80a052dfce67a3ba89212c8b2a0e44c350e3e784"), looks := false }, kinds := [], alts := [], laidByText := true, laidKinds := [.data, .data, .data, .data, .data, .pinned, .pinned], laidTests := true, laidLooks := .later }
def LeveltextFillsCardSaid : Prop := Claim7.holds Tryz.pinned (.plain (OpenSpec.ofChange leveltextFillsSpec)) leveltextFillsCard

/-- THE TIED CARD OF 'obeluslaw10.LeveltextFits'. -/
def leveltextFitsCard : Claim7 := { stood := { row := leveltextFitsRow, standIns := [], harness := (true, "64510c2613d674674cedc3fa80a052dfce67a3ba89212c8b2a0e44c350e3e784"), looks := false }, kinds := [], alts := [], laidByText := true, laidKinds := [.data, .data, .data, .data, .data, .pinned, .pinned], laidTests := true, laidLooks := .later }
def LeveltextFitsCardSaid : Prop := Claim7.holds Tryz.pinned (.plain (OpenSpec.ofChange leveltextFitsSpec)) leveltextFitsCard

/-- THE TIED CARD OF 'obeluslaw10.LeveltextFillFits'. -/
def leveltextFillFitsCard : Claim7 := { stood := { row := leveltextFillFitsRow, standIns := [], harness := (true, "64510c2613d674674cedc3fa80a052dfce67a3ba89212c8b2a0e44c350e3e784"), looks := false }, kinds := [], alts := [], laidByText := true, laidKinds := [.data, .data, .data, .data, .data, .pinned, .pinned], laidTests := true, laidLooks := .later }
def LeveltextFillFitsCardSaid : Prop := Claim7.holds Tryz.pinned (.plain (OpenSpec.ofChange leveltextFillFitsSpec)) leveltextFillFitsCard

/-- THE TIED CARD OF 'obeluslaw10.LeveltextDepends'. -/
def leveltextDependsCard : Claim7 := { stood := { row := leveltextDependsRow, standIns := [], harness := (true, "64510c2613d674674cedc3fa80a052dfce67a3ba89212c8b2a0e44c350e3e784"), looks := false }, kinds := [], alts := [], laidByText := true, laidKinds := [.data, .data, .data, .data, .data, .pinned, .pinned], laidTests := true, laidLooks := .later }
def LeveltextDependsCardSaid : Prop := Claim7.holds Tryz.pinned (.plain (OpenSpec.ofChange leveltextDependsSpec)) leveltextDependsCard

/-- THE TIED CARD OF 'obeluslaw10.LeveltextShifts'. -/
def leveltextShiftsCard : Claim7 := { stood := { row := leveltextShiftsRow, standIns := [], harness := (true, "64510c2613d674674cedc3fa80a052dfce67a3ba89212c8b2a0e44c350e3e784"), looks := false }, kinds := [], alts := [], laidByText := true, laidKinds := [.data, .data, .data, .data, .data, .pinned, .pinned], laidTests := true, laidLooks := .later }
def LeveltextShiftsCardSaid : Prop := Claim7.holds Tryz.pinned (.plain (OpenSpec.ofChange leveltextShiftsSpec)) leveltextShiftsCard

/-- THE TIED CARD OF 'obeluslaw10.LeveltextPrints'. -/
def leveltextPrintsCard : Claim7 := { stood := { row := leveltextPrintsRow, standIns := [], harness := (true, "64510c2613d674674cedc3fa80a052dfce67a3ba89212c8b2a0e44c350e3e784"), looks := false }, kinds := [], alts := [], laidByText := true, laidKinds := [.data, .data, .data, .data, .data, .pinned, .pinned], laidTests := true, laidLooks := .later }
def LeveltextPrintsCardSaid : Prop := Claim7.holds Tryz.pinned (.plain (OpenSpec.ofChange leveltextPrintsSpec)) leveltextPrintsCard

/-- THE TIED CARD OF 'obeluslaw10.LeveltextReturns'. -/
def leveltextReturnsCard : Claim7 := { stood := { row := leveltextReturnsRow, standIns := [], harness := (true, "64510c2613d674674cedc3fa80a052dfce67a3ba89212c8b2a0e44c350e3e784"), looks := false }, kinds := [], alts := [], laidByText := true, laidKinds := [.data, .data, .data, .data, .data, .pinned, .pinned], laidTests := true, laidLooks := .later }
def LeveltextReturnsCardSaid : Prop := Claim7.holds Tryz.pinned (.plain (OpenSpec.ofChange leveltextReturnsSpec)) leveltextReturnsCard

/-- THE TIED CARD OF 'obeluslaw10.LeveltextUses'. -/
def leveltextUsesCard : Claim7 := { stood := { row := leveltextUsesRow, standIns := [], harness := (true, "64510c2613d674674cedc3fa80a052dfce67a3ba89212c8b2a0e44c350e3e784"), looks := false }, kinds := [], alts := [], laidByText := true, laidKinds := [.data, .data, .data, .data, .data, .pinned, .pinned], laidTests := true, laidLooks := .later }
def LeveltextUsesCardSaid : Prop := Claim7.holds Tryz.pinned (.plain (OpenSpec.ofChange leveltextUsesSpec)) leveltextUsesCard

/-- THE SECOND FORM's CARD OF 'obeluslaw10.LeveltextParses'. -/
def leveltextParsesUptoCard : Claim7 := { stood := { row := leveltextParsesUptoRow, standIns := [], harness := (true, "64510c2613d674674cedc3fa80a052dfce67a3ba89212c8b2a0e44c350e3e784"), looks := false }, kinds := [], alts := [], laidByText := true, laidKinds := [.data, .data, .data, .data, .data, .pinned, .pinned], laidTests := true, laidLooks := .later }
def LeveltextParsesUptoCardSaid : Prop := Claim7.holds Tryz.pinned (.plain (OpenSpec.upto leveltextParsesSpec)) leveltextParsesUptoCard

/-- THE SECOND FORM's CARD OF 'obeluslaw10.LeveltextChecks'. -/
def leveltextChecksUptoCard : Claim7 := { stood := { row := leveltextChecksUptoRow, standIns := [], harness := (true, "64510c2613d674674cedc3fa80a052dfce67a3ba89212c8b2a0e44c350e3e784"), looks := false }, kinds := [], alts := [], laidByText := true, laidKinds := [.data, .data, .data, .data, .data, .pinned, .pinned], laidTests := true, laidLooks := .later }
def LeveltextChecksUptoCardSaid : Prop := Claim7.holds Tryz.pinned (.plain (OpenSpec.upto leveltextChecksSpec)) leveltextChecksUptoCard

/-- THE SECOND FORM's CARD OF 'obeluslaw10.LeveltextFills'. -/
def leveltextFillsUptoCard : Claim7 := { stood := { row := leveltextFillsUptoRow, standIns := [], harness := (true, "64510c2613d674674cedc3fa80a052dfce67a3ba89212c8b2a0e44c350e3e784"), looks := false }, kinds := [], alts := [], laidByText := true, laidKinds := [.data, .data, .data, .data, .data, .pinned, .pinned], laidTests := true, laidLooks := .later }
def LeveltextFillsUptoCardSaid : Prop := Claim7.holds Tryz.pinned (.plain (OpenSpec.upto leveltextFillsSpec)) leveltextFillsUptoCard

/-- THE SECOND FORM's CARD OF 'obeluslaw10.LeveltextFits'. -/
def leveltextFitsUptoCard : Claim7 := { stood := { row := leveltextFitsUptoRow, standIns := [], harness := (true, "64510c2613d674674cedc3fa80a052dfce67a3ba89212c8b2a0e44c350e3e784"), looks := false }, kinds := [], alts := [], laidByText := true, laidKinds := [.data, .data, .data, .data, .data, .pinned, .pinned], laidTests := true, laidLooks := .later }
def LeveltextFitsUptoCardSaid : Prop := Claim7.holds Tryz.pinned (.plain (OpenSpec.upto leveltextFitsSpec)) leveltextFitsUptoCard

/-- THE SECOND FORM's CARD OF 'obeluslaw10.LeveltextFillFits'. -/
def leveltextFillFitsUptoCard : Claim7 := { stood := { row := leveltextFillFitsUptoRow, standIns := [], harness := (true, "64510c2613d674674cedc3fa80a052dfce67a3ba89212c8b2a0e44c350e3e784"), looks := false }, kinds := [], alts := [], laidByText := true, laidKinds := [.data, .data, .data, .data, .data, .pinned, .pinned], laidTests := true, laidLooks := .later }
def LeveltextFillFitsUptoCardSaid : Prop := Claim7.holds Tryz.pinned (.plain (OpenSpec.upto leveltextFillFitsSpec)) leveltextFillFitsUptoCard

/-- THE SECOND FORM's CARD OF 'obeluslaw10.LeveltextDepends'. -/
def leveltextDependsUptoCard : Claim7 := { stood := { row := leveltextDependsUptoRow, standIns := [], harness := (true, "64510c2613d674674cedc3fa80a052dfce67a3ba89212c8b2a0e44c350e3e784"), looks := false }, kinds := [], alts := [], laidByText := true, laidKinds := [.data, .data, .data, .data, .data, .pinned, .pinned], laidTests := true, laidLooks := .later }
def LeveltextDependsUptoCardSaid : Prop := Claim7.holds Tryz.pinned (.plain (OpenSpec.upto leveltextDependsSpec)) leveltextDependsUptoCard

/-- THE SECOND FORM's CARD OF 'obeluslaw10.LeveltextShifts'. -/
def leveltextShiftsUptoCard : Claim7 := { stood := { row := leveltextShiftsUptoRow, standIns := [], harness := (true, "64510c2613d674674cedc3fa80a052dfce67a3ba89212c8b2a0e44c350e3e784"), looks := false }, kinds := [], alts := [], laidByText := true, laidKinds := [.data, .data, .data, .data, .data, .pinned, .pinned], laidTests := true, laidLooks := .later }
def LeveltextShiftsUptoCardSaid : Prop := Claim7.holds Tryz.pinned (.plain (OpenSpec.upto leveltextShiftsSpec)) leveltextShiftsUptoCard

/-- THE SECOND FORM's CARD OF 'obeluslaw10.LeveltextPrints'. -/
def leveltextPrintsUptoCard : Claim7 := { stood := { row := leveltextPrintsUptoRow, standIns := [], harness := (true, "64510c2613d674674cedc3fa80a052dfce67a3ba89212c8b2a0e44c350e3e784"), looks := false }, kinds := [], alts := [], laidByText := true, laidKinds := [.data, .data, .data, .data, .data, .pinned, .pinned], laidTests := true, laidLooks := .later }
def LeveltextPrintsUptoCardSaid : Prop := Claim7.holds Tryz.pinned (.plain (OpenSpec.upto leveltextPrintsSpec)) leveltextPrintsUptoCard

/-- THE SECOND FORM's CARD OF 'obeluslaw10.LeveltextReturns'. -/
def leveltextReturnsUptoCard : Claim7 := { stood := { row := leveltextReturnsUptoRow, standIns := [], harness := (true, "64510c2613d674674cedc3fa80a052dfce67a3ba89212c8b2a0e44c350e3e784"), looks := false }, kinds := [], alts := [], laidByText := true, laidKinds := [.data, .data, .data, .data, .data, .pinned, .pinned], laidTests := true, laidLooks := .later }
def LeveltextReturnsUptoCardSaid : Prop := Claim7.holds Tryz.pinned (.plain (OpenSpec.upto leveltextReturnsSpec)) leveltextReturnsUptoCard

/-- THE SECOND FORM's CARD OF 'obeluslaw10.LeveltextUses'. -/
def leveltextUsesUptoCard : Claim7 := { stood := { row := leveltextUsesUptoRow, standIns := [], harness := (true, "64510c2613d674674cedc3fa80a052dfce67a3ba89212c8b2a0e44c350e3e784"), looks := false }, kinds := [], alts := [], laidByText := true, laidKinds := [.data, .data, .data, .data, .data, .pinned, .pinned], laidTests := true, laidLooks := .later }
def LeveltextUsesUptoCardSaid : Prop := Claim7.holds Tryz.pinned (.plain (OpenSpec.upto leveltextUsesSpec)) leveltextUsesUptoCard
end Rows
end Go.Proofs.YtaneeaojlkenmaaGreatDoor
