/-
  DERIVED. GIVEN WITH THE SEED: THE CARDS: each row of YtnoadopmeoohmaaGreatDoorRows.lean that lists a variable, with what it lists TIED to the program's text (the seventh form; the later family's looks); each row that meets fmt, with fmt's text TOLD by the authors' own Lean function (tested against real Go, not proved from fmt's source: count such statements apart). THE CARD IS WHAT COUNTS. Prove the row's statement (the work); the ties are given (YtnoadopmeoohmaaGreatDoorTie.lean); close each card by the builder's one call (the guide's Derived/Test/ToyasCard.lean, 'card_holds'). Laid BY PROGRAM, IN A SANDBOX (cutbox-door.mjs). By AI agents, Wed Nov 11 2026. No macro, syntax, notation, axiom, sorry.
-/
import Derived.Test.YtnoadopmeoohmaaGreatDoorRows
import GoSem.ClaimSeven
namespace Go.Proofs.YtnoadopmeoohmaaGreatDoor
namespace Rows

/-- THE TIED CARD OF 'obeluslaw41.FormulaChecks'. -/
def formulaChecksCard : Claim7 := { stood := { row := formulaChecksRow, standIns := [], harness := (true, "f44316ed35aba1afc4de67bdb93e5036c912834acb65f4b3cd6bacdb27466986"), looks := true }, kinds := [], alts := [], laidByText := true, laidKinds := [.data, .data, .data, .data, .sentinel, .sentinel, .pinned], laidTests := true, laidLooks := .later }
def FormulaChecksCardSaid : Prop := Claim7.holds Tryz.pinned (.plain (OpenSpec.ofChange formulaChecksSpec)) formulaChecksCard

/-- THE TIED CARD OF 'obeluslaw41.FormulaParses'. -/
def formulaParsesCard : Claim7 := { stood := { row := formulaParsesRow, standIns := [], harness := (true, "f44316ed35aba1afc4de67bdb93e5036c912834acb65f4b3cd6bacdb27466986"), looks := true }, kinds := [], alts := [], laidByText := true, laidKinds := [.data, .data, .data, .data, .sentinel, .sentinel, .pinned], laidTests := true, laidLooks := .later }
def FormulaParsesCardSaid : Prop := Claim7.holds Tryz.pinned (.plain (OpenSpec.ofChange formulaParsesSpec)) formulaParsesCard

/-- THE TIED CARD OF 'obeluslaw41.FormulaPrints'. -/
def formulaPrintsCard : Claim7 := { stood := { row := formulaPrintsRow, standIns := [], harness := (true, "f44316ed35aba1afc4de67bdb93e5036c912834acb65f4b3cd6bacdb27466986"), looks := true }, kinds := [], alts := [], laidByText := true, laidKinds := [.data, .data, .data, .data, .sentinel, .sentinel, .pinned], laidTests := true, laidLooks := .later }
def FormulaPrintsCardSaid : Prop := Claim7.holds Tryz.pinned (.plain (OpenSpec.ofChange formulaPrintsSpec)) formulaPrintsCard

/-- THE TIED CARD OF 'obeluslaw41.FormulaOperators'. -/
def formulaOperatorsCard : Claim7 := { stood := { row := formulaOperatorsRow, standIns := [], harness := (true, "f44316ed35aba1afc4de67bdb93e5036c912834acb65f4b3cd6bacdb27466986"), looks := true }, kinds := [], alts := [], laidByText := true, laidKinds := [.data, .data, .data, .data, .sentinel, .sentinel, .pinned], laidTests := true, laidLooks := .later }
def FormulaOperatorsCardSaid : Prop := Claim7.holds Tryz.pinned (.plain (OpenSpec.ofChange formulaOperatorsSpec)) formulaOperatorsCard

/-- THE TIED CARD OF 'obeluslaw41.FormulaLazy'. -/
def formulaLazyCard : Claim7 := { stood := { row := formulaLazyRow, standIns := [], harness := (true, "f44316ed35aba1afc4de67bdb93e5036c912834acb65f4b3cd6bacdb27466986"), looks := true }, kinds := [], alts := [], laidByText := true, laidKinds := [.data, .data, .data, .data, .sentinel, .sentinel, .pinned], laidTests := true, laidLooks := .later }
def FormulaLazyCardSaid : Prop := Claim7.holds Tryz.pinned (.plain (OpenSpec.ofChange formulaLazySpec)) formulaLazyCard

/-- THE TIED CARD OF 'obeluslaw41.FormulaEvals'. -/
def formulaEvalsCard : Claim7 := { stood := { row := formulaEvalsRow, standIns := [], harness := (true, "f44316ed35aba1afc4de67bdb93e5036c912834acb65f4b3cd6bacdb27466986"), looks := true }, kinds := [], alts := [], laidByText := true, laidKinds := [.data, .data, .data, .data, .sentinel, .sentinel, .pinned], laidTests := true, laidLooks := .later }
def FormulaEvalsCardSaid : Prop := Claim7.holds Tryz.pinned (.plain (OpenSpec.ofChange formulaEvalsSpec)) formulaEvalsCard

/-- THE TIED CARD OF 'obeluslaw41.FormulaShows'. -/
def formulaShowsCard : Claim7 := { stood := { row := formulaShowsRow, standIns := [], harness := (true, "f44316ed35aba1afc4de67bdb93e5036c912834acb65f4b3cd6bacdb27466986"), looks := true }, kinds := [], alts := [], laidByText := true, laidKinds := [.data, .data, .data, .data, .sentinel, .sentinel, .pinned], laidTests := true, laidLooks := .later }
def FormulaShowsCardSaid : Prop := Claim7.holds Tryz.pinned (.plain (OpenSpec.ofChange formulaShowsSpec)) formulaShowsCard

/-- THE TIED CARD OF 'obeluslaw41.FormulaReturns'. -/
def formulaReturnsCard : Claim7 := { stood := { row := formulaReturnsRow, standIns := [], harness := (true, "f44316ed35aba1afc4de67bdb93e5036c912834acb65f4b3cd6bacdb27466986"), looks := true }, kinds := [], alts := [], laidByText := true, laidKinds := [.data, .data, .data, .data, .sentinel, .sentinel, .pinned], laidTests := true, laidLooks := .later }
def FormulaReturnsCardSaid : Prop := Claim7.holds Tryz.pinned (.plain (OpenSpec.ofChange formulaReturnsSpec)) formulaReturnsCard

/-- THE TIED CARD OF 'obeluslaw41.FormulaNames'. -/
def formulaNamesCard : Claim7 := { stood := { row := formulaNamesRow, standIns := [], harness := (true, "f44316ed35aba1afc4de67bdb93e5036c912834acb65f4b3cd6bacdb27466986"), looks := true }, kinds := [], alts := [], laidByText := true, laidKinds := [.data, .data, .data, .data, .sentinel, .sentinel, .pinned], laidTests := true, laidLooks := .later }
def FormulaNamesCardSaid : Prop := Claim7.holds Tryz.pinned (.plain (OpenSpec.ofChange formulaNamesSpec)) formulaNamesCard

/-- THE SECOND FORM's CARD OF 'obeluslaw41.FormulaChecks'. -/
def formulaChecksUptoCard : Claim7 := { stood := { row := formulaChecksUptoRow, standIns := [], harness := (true, "f44316ed35aba1afc4de67bdb93e5036c912834acb65f4b3cd6bacdb27466986"), looks := true }, kinds := [], alts := [], laidByText := true, laidKinds := [.data, .data, .data, .data, .sentinel, .sentinel, .pinned], laidTests := true, laidLooks := .later }
def FormulaChecksUptoCardSaid : Prop := Claim7.holds Tryz.pinned (.plain (OpenSpec.upto formulaChecksSpec)) formulaChecksUptoCard

/-- THE SECOND FORM's CARD OF 'obeluslaw41.FormulaParses'. -/
def formulaParsesUptoCard : Claim7 := { stood := { row := formulaParsesUptoRow, standIns := [], harness := (true, "f44316ed35aba1afc4de67bdb93e5036c912834acb65f4b3cd6bacdb27466986"), looks := true }, kinds := [], alts := [], laidByText := true, laidKinds := [.data, .data, .data, .data, .sentinel, .sentinel, .pinned], laidTests := true, laidLooks := .later }
def FormulaParsesUptoCardSaid : Prop := Claim7.holds Tryz.pinned (.plain (OpenSpec.upto formulaParsesSpec)) formulaParsesUptoCard

/-- THE SECOND FORM's CARD OF 'obeluslaw41.FormulaPrints'. -/
def formulaPrintsUptoCard : Claim7 := { stood := { row := formulaPrintsUptoRow, standIns := [], harness := (true, "f44316ed35aba1afc4de67bdb93e5036c912834acb65f4b3cd6bacdb27466986"), looks := true }, kinds := [], alts := [], laidByText := true, laidKinds := [.data, .data, .data, .data, .sentinel, .sentinel, .pinned], laidTests := true, laidLooks := .later }
def FormulaPrintsUptoCardSaid : Prop := Claim7.holds Tryz.pinned (.plain (OpenSpec.upto formulaPrintsSpec)) formulaPrintsUptoCard

/-- THE SECOND FORM's CARD OF 'obeluslaw41.FormulaOperators'. -/
def formulaOperatorsUptoCard : Claim7 := { stood := { row := formulaOperatorsUptoRow, standIns := [], harness := (true, "f44316ed35aba1afc4de67bdb93e5036c912834acb65f4b3cd6bacdb27466986"), looks := true }, kinds := [], alts := [], laidByText := true, laidKinds := [.data, .data, .data, .data, .sentinel, .sentinel, .pinned], laidTests := true, laidLooks := .later }
def FormulaOperatorsUptoCardSaid : Prop := Claim7.holds Tryz.pinned (.plain (OpenSpec.upto formulaOperatorsSpec)) formulaOperatorsUptoCard

/-- THE SECOND FORM's CARD OF 'obeluslaw41.FormulaLazy'. -/
def formulaLazyUptoCard : Claim7 := { stood := { row := formulaLazyUptoRow, standIns := [], harness := (true, "f44316ed35aba1afc4de67bdb93e5036c912834acb65f4b3cd6bacdb27466986"), looks := true }, kinds := [], alts := [], laidByText := true, laidKinds := [.data, .data, .data, .data, .sentinel, .sentinel, .pinned], laidTests := true, laidLooks := .later }
def FormulaLazyUptoCardSaid : Prop := Claim7.holds Tryz.pinned (.plain (OpenSpec.upto formulaLazySpec)) formulaLazyUptoCard

/-- THE SECOND FORM's CARD OF 'obeluslaw41.FormulaEvals'. -/
def formulaEvalsUptoCard : Claim7 := { stood := { row := formulaEvalsUptoRow, standIns := [], harness := (true, "f44316ed35aba1afc4de67bdb93e5036c912834acb65f4b3cd6bacdb27466986"), looks := true }, kinds := [], alts := [], laidByText := true, laidKinds := [.data, .data, .data, .data, .sentinel, .sentinel, .pinned], laidTests := true, laidLooks := .later }
def FormulaEvalsUptoCardSaid : Prop := Claim7.holds Tryz.pinned (.plain (OpenSpec.upto formulaEvalsSpec)) formulaEvalsUptoCard

/-- THE SECOND FORM's CARD OF 'obeluslaw41.FormulaShows'. -/
def formulaShowsUptoCard : Claim7 := { stood := { row := formulaShowsUptoRow, standIns := [], harness := (true, "f44316ed35aba1afc4de67bdb93e5036c912834acb65f4b3cd6bacdb27466986"), looks := true }, kinds := [], alts := [], laidByText := true, laidKinds := [.data, .data, .data, .data, .sentinel, .sentinel, .pinned], laidTests := true, laidLooks := .later }
def FormulaShowsUptoCardSaid : Prop := Claim7.holds Tryz.pinned (.plain (OpenSpec.upto formulaShowsSpec)) formulaShowsUptoCard

/-- THE SECOND FORM's CARD OF 'obeluslaw41.FormulaReturns'. -/
def formulaReturnsUptoCard : Claim7 := { stood := { row := formulaReturnsUptoRow, standIns := [], harness := (true, "f44316ed35aba1afc4de67bdb93e5036c912834acb65f4b3cd6bacdb27466986"), looks := true }, kinds := [], alts := [], laidByText := true, laidKinds := [.data, .data, .data, .data, .sentinel, .sentinel, .pinned], laidTests := true, laidLooks := .later }
def FormulaReturnsUptoCardSaid : Prop := Claim7.holds Tryz.pinned (.plain (OpenSpec.upto formulaReturnsSpec)) formulaReturnsUptoCard

/-- THE SECOND FORM's CARD OF 'obeluslaw41.FormulaNames'. -/
def formulaNamesUptoCard : Claim7 := { stood := { row := formulaNamesUptoRow, standIns := [], harness := (true, "f44316ed35aba1afc4de67bdb93e5036c912834acb65f4b3cd6bacdb27466986"), looks := true }, kinds := [], alts := [], laidByText := true, laidKinds := [.data, .data, .data, .data, .sentinel, .sentinel, .pinned], laidTests := true, laidLooks := .later }
def FormulaNamesUptoCardSaid : Prop := Claim7.holds Tryz.pinned (.plain (OpenSpec.upto formulaNamesSpec)) formulaNamesUptoCard
end Rows
end Go.Proofs.YtnoadopmeoohmaaGreatDoor
