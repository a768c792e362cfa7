/-
  DERIVED. GIVEN WITH THE SEED: THE CARDS: each row of YtaehbjmimnjggaaDoorRows.lean that lists a variable, with what it lists TIED to the program's text (the seventh form; the later family's looks); each row that meets fmt, with fmt's text TOLD by the authors' own Lean function (tested against real Go, not proved from fmt's source: count such statements apart). THE CARD IS WHAT COUNTS. Prove the row's statement (the work); the ties are given (YtaehbjmimnjggaaDoorTie.lean); close each card by the builder's one call (the guide's Derived/Test/ToyasCard.lean, 'card_holds'). Laid BY PROGRAM, IN A SANDBOX (cutbox-door.mjs). By AI agents, Wed Nov 11 2026. No macro, syntax, notation, axiom, sorry.
-/
import Derived.Test.YtaehbjmimnjggaaDoorRows
import GoSem.ClaimSeven
namespace Go.Proofs.YtaehbjmimnjggaaDoor
namespace Rows

/-- THE TIED CARD OF 'obeluslaw09.NumeralFormats'. -/
def numeralFormatsCard : Claim7 := { stood := { row := numeralFormatsRow, standIns := [], harness := (true, "fdf0e2b2a7331a68ef54717dc43cbc6dc7ba11341261f7e00adca333182ca8a2"), looks := false }, kinds := [], alts := [], laidByText := true, laidKinds := [.data, .data, .data, .data, .data, .pinned, .pinned], laidTests := true, laidLooks := .later }
def NumeralFormatsCardSaid : Prop := Claim7.holds Tryd.pinned (.plain (OpenSpec.ofChange numeralFormatsSpec)) numeralFormatsCard

/-- THE TIED CARD OF 'obeluslaw09.NumeralParses'. -/
def numeralParsesCard : Claim7 := { stood := { row := numeralParsesRow, standIns := [], harness := (true, "fdf0e2b2a7331a68ef54717dc43cbc6dc7ba11341261f7e00adca333182ca8a2"), looks := false }, kinds := [], alts := [], laidByText := true, laidKinds := [.data, .data, .data, .data, .data, .pinned, .pinned], laidTests := true, laidLooks := .later }
def NumeralParsesCardSaid : Prop := Claim7.holds Tryd.pinned (.plain (OpenSpec.ofChange numeralParsesSpec)) numeralParsesCard

/-- THE TIED CARD OF 'obeluslaw09.NumeralInverse'. -/
def numeralInverseCard : Claim7 := { stood := { row := numeralInverseRow, standIns := [], harness := (true, "fdf0e2b2a7331a68ef54717dc43cbc6dc7ba11341261f7e00adca333182ca8a2"), looks := false }, kinds := [], alts := [], laidByText := true, laidKinds := [.data, .data, .data, .data, .data, .pinned, .pinned], laidTests := true, laidLooks := .later }
def NumeralInverseCardSaid : Prop := Claim7.holds Tryd.pinned (.plain (OpenSpec.ofChange numeralInverseSpec)) numeralInverseCard

/-- THE TIED CARD OF 'obeluslaw09.NumeralOrders'. -/
def numeralOrdersCard : Claim7 := { stood := { row := numeralOrdersRow, standIns := [], harness := (true, "fdf0e2b2a7331a68ef54717dc43cbc6dc7ba11341261f7e00adca333182ca8a2"), looks := false }, kinds := [], alts := [], laidByText := true, laidKinds := [.data, .data, .data, .data, .data, .pinned, .pinned], laidTests := true, laidLooks := .later }
def NumeralOrdersCardSaid : Prop := Claim7.holds Tryd.pinned (.plain (OpenSpec.ofChange numeralOrdersSpec)) numeralOrdersCard

/-- THE TIED CARD OF 'obeluslaw09.NumeralCases'. -/
def numeralCasesCard : Claim7 := { stood := { row := numeralCasesRow, standIns := [], harness := (true, "fdf0e2b2a7331a68ef54717dc43cbc6dc7ba11341261f7e00adca333182ca8a2"), looks := false }, kinds := [], alts := [], laidByText := true, laidKinds := [.data, .data, .data, .data, .data, .pinned, .pinned], laidTests := true, laidLooks := .later }
def NumeralCasesCardSaid : Prop := Claim7.holds Tryd.pinned (.plain (OpenSpec.ofChange numeralCasesSpec)) numeralCasesCard

/-- THE TIED CARD OF 'obeluslaw09.NumeralOrdinals'. -/
def numeralOrdinalsCard : Claim7 := { stood := { row := numeralOrdinalsRow, standIns := [], harness := (true, "fdf0e2b2a7331a68ef54717dc43cbc6dc7ba11341261f7e00adca333182ca8a2"), looks := false }, kinds := [], alts := [], laidByText := true, laidKinds := [.data, .data, .data, .data, .data, .pinned, .pinned], laidTests := true, laidLooks := .later }
def NumeralOrdinalsCardSaid : Prop := Claim7.holds Tryd.pinned (.plain (OpenSpec.ofChange numeralOrdinalsSpec)) numeralOrdinalsCard

/-- THE TIED CARD OF 'obeluslaw09.NumeralDetects'. -/
def numeralDetectsCard : Claim7 := { stood := { row := numeralDetectsRow, standIns := [], harness := (true, "fdf0e2b2a7331a68ef54717dc43cbc6dc7ba11341261f7e00adca333182ca8a2"), looks := false }, kinds := [], alts := [], laidByText := true, laidKinds := [.data, .data, .data, .data, .data, .pinned, .pinned], laidTests := true, laidLooks := .later }
def NumeralDetectsCardSaid : Prop := Claim7.holds Tryd.pinned (.plain (OpenSpec.ofChange numeralDetectsSpec)) numeralDetectsCard

/-- THE TIED CARD OF 'obeluslaw09.NumeralNexts'. -/
def numeralNextsCard : Claim7 := { stood := { row := numeralNextsRow, standIns := [], harness := (true, "fdf0e2b2a7331a68ef54717dc43cbc6dc7ba11341261f7e00adca333182ca8a2"), looks := false }, kinds := [], alts := [], laidByText := true, laidKinds := [.data, .data, .data, .data, .data, .pinned, .pinned], laidTests := true, laidLooks := .later }
def NumeralNextsCardSaid : Prop := Claim7.holds Tryd.pinned (.plain (OpenSpec.ofChange numeralNextsSpec)) numeralNextsCard

/-- THE TIED CARD OF 'obeluslaw09.NumeralLongest'. -/
def numeralLongestCard : Claim7 := { stood := { row := numeralLongestRow, standIns := [], harness := (true, "fdf0e2b2a7331a68ef54717dc43cbc6dc7ba11341261f7e00adca333182ca8a2"), looks := false }, kinds := [], alts := [], laidByText := true, laidKinds := [.data, .data, .data, .data, .data, .pinned, .pinned], laidTests := true, laidLooks := .later }
def NumeralLongestCardSaid : Prop := Claim7.holds Tryd.pinned (.plain (OpenSpec.ofChange numeralLongestSpec)) numeralLongestCard

/-- THE SECOND FORM's CARD OF 'obeluslaw09.NumeralFormats'. -/
def numeralFormatsUptoCard : Claim7 := { stood := { row := numeralFormatsUptoRow, standIns := [], harness := (true, "fdf0e2b2a7331a68ef54717dc43cbc6dc7ba11341261f7e00adca333182ca8a2"), looks := false }, kinds := [], alts := [], laidByText := true, laidKinds := [.data, .data, .data, .data, .data, .pinned, .pinned], laidTests := true, laidLooks := .later }
def NumeralFormatsUptoCardSaid : Prop := Claim7.holds Tryd.pinned (.plain (OpenSpec.upto numeralFormatsSpec)) numeralFormatsUptoCard

/-- THE SECOND FORM's CARD OF 'obeluslaw09.NumeralParses'. -/
def numeralParsesUptoCard : Claim7 := { stood := { row := numeralParsesUptoRow, standIns := [], harness := (true, "fdf0e2b2a7331a68ef54717dc43cbc6dc7ba11341261f7e00adca333182ca8a2"), looks := false }, kinds := [], alts := [], laidByText := true, laidKinds := [.data, .data, .data, .data, .data, .pinned, .pinned], laidTests := true, laidLooks := .later }
def NumeralParsesUptoCardSaid : Prop := Claim7.holds Tryd.pinned (.plain (OpenSpec.upto numeralParsesSpec)) numeralParsesUptoCard

/-- THE SECOND FORM's CARD OF 'obeluslaw09.NumeralInverse'. -/
def numeralInverseUptoCard : Claim7 := { stood := { row := numeralInverseUptoRow, standIns := [], harness := (true, "fdf0e2b2a7331a68ef54717dc43cbc6dc7ba11341261f7e00adca333182ca8a2"), looks := false }, kinds := [], alts := [], laidByText := true, laidKinds := [.data, .data, .data, .data, .data, .pinned, .pinned], laidTests := true, laidLooks := .later }
def NumeralInverseUptoCardSaid : Prop := Claim7.holds Tryd.pinned (.plain (OpenSpec.upto numeralInverseSpec)) numeralInverseUptoCard

/-- THE SECOND FORM's CARD OF 'obeluslaw09.NumeralOrders'. -/
def numeralOrdersUptoCard : Claim7 := { stood := { row := numeralOrdersUptoRow, standIns := [], harness := (true, "fdf0e2b2a7331a68ef54717dc43cbc6dc7ba11341261f7e00adca333182ca8a2"), looks := false }, kinds := [], alts := [], laidByText := true, laidKinds := [.data, .data, .data, .data, .data, .pinned, .pinned], laidTests := true, laidLooks := .later }
def NumeralOrdersUptoCardSaid : Prop := Claim7.holds Tryd.pinned (.plain (OpenSpec.upto numeralOrdersSpec)) numeralOrdersUptoCard

/-- THE SECOND FORM's CARD OF 'obeluslaw09.NumeralCases'. -/
def numeralCasesUptoCard : Claim7 := { stood := { row := numeralCasesUptoRow, standIns := [], harness := (true, "fdf0e2b2a7331a68ef54717dc43cbc6dc7ba11341261f7e00adca333182ca8a2"), looks := false }, kinds := [], alts := [], laidByText := true, laidKinds := [.data, .data, .data, .data, .data, .pinned, .pinned], laidTests := true, laidLooks := .later }
def NumeralCasesUptoCardSaid : Prop := Claim7.holds Tryd.pinned (.plain (OpenSpec.upto numeralCasesSpec)) numeralCasesUptoCard

/-- THE SECOND FORM's CARD OF 'obeluslaw09.NumeralOrdinals'. -/
def numeralOrdinalsUptoCard : Claim7 := { stood := { row := numeralOrdinalsUptoRow, standIns := [], harness := (true, "fdf0e2b2a7331a68ef54717dc43cbc6dc7ba11341261f7e00adca333182ca8a2"), looks := false }, kinds := [], alts := [], laidByText := true, laidKinds := [.data, .data, .data, .data, .data, .pinned, .pinned], laidTests := true, laidLooks := .later }
def NumeralOrdinalsUptoCardSaid : Prop := Claim7.holds Tryd.pinned (.plain (OpenSpec.upto numeralOrdinalsSpec)) numeralOrdinalsUptoCard

/-- THE SECOND FORM's CARD OF 'obeluslaw09.NumeralDetects'. -/
def numeralDetectsUptoCard : Claim7 := { stood := { row := numeralDetectsUptoRow, standIns := [], harness := (true, "fdf0e2b2a7331a68ef54717dc43cbc6dc7ba11341261f7e00adca333182ca8a2"), looks := false }, kinds := [], alts := [], laidByText := true, laidKinds := [.data, .data, .data, .data, .data, .pinned, .pinned], laidTests := true, laidLooks := .later }
def NumeralDetectsUptoCardSaid : Prop := Claim7.holds Tryd.pinned (.plain (OpenSpec.upto numeralDetectsSpec)) numeralDetectsUptoCard

/-- THE SECOND FORM's CARD OF 'obeluslaw09.NumeralNexts'. -/
def numeralNextsUptoCard : Claim7 := { stood := { row := numeralNextsUptoRow, standIns := [], harness := (true, "fdf0e2b2a7331a68ef54717dc43cbc6dc7ba11341261f7e00adca333182ca8a2"), looks := false }, kinds := [], alts := [], laidByText := true, laidKinds := [.data, .data, .data, .data, .data, .pinned, .pinned], laidTests := true, laidLooks := .later }
def NumeralNextsUptoCardSaid : Prop := Claim7.holds Tryd.pinned (.plain (OpenSpec.upto numeralNextsSpec)) numeralNextsUptoCard

/-- THE SECOND FORM's CARD OF 'obeluslaw09.NumeralLongest'. -/
def numeralLongestUptoCard : Claim7 := { stood := { row := numeralLongestUptoRow, standIns := [], harness := (true, "fdf0e2b2a7331a68ef54717dc43cbc6dc7ba11341261f7e00adca333182ca8a2"), looks := false }, kinds := [], alts := [], laidByText := true, laidKinds := [.data, .data, .data, .data, .data, .pinned, .pinned], laidTests := true, laidLooks := .later }
def NumeralLongestUptoCardSaid : Prop := Claim7.holds Tryd.pinned (.plain (OpenSpec.upto numeralLongestSpec)) numeralLongestUptoCard
end Rows
end Go.Proofs.YtaehbjmimnjggaaDoor
