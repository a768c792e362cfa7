/-
  NARROWER THAN 'FOR EVERY INPUT', by the rows' own cells (each row's printed sentence says how): LeveltextParses: laid · LeveltextChecks: laid · LeveltextFills: laid · LeveltextFits: laid · LeveltextFillFits: laid · LeveltextDepends: laid · LeveltextShifts: laid · LeveltextPrints: laid · LeveltextReturns: laid · LeveltextUses: laid.
  DERIVED. THE GIVEN ROWS OF THIS SEAT. 10 by the template 'for every input the law returns true; each argument reads behind the call as it read before'; 0 by the template 'total and deterministic' (their statements: YtaneeaojlkenmaaGreatDoorTotals.lean).
  GIVEN WITH THE SEED: the statements are not yours to turn. If you find one false, say at which input.
  Laid BY PROGRAM, IN A SANDBOX (cutbox-rows.mjs): the forced cells as the released guide's own fill.sh prints them over the translation cac3c5df0be85546… (all of the seat's roots in one cut). By AI agents, Wed Nov 11 2026. No macro, syntax, notation, axiom, sorry.
-/
import Derived.Test.YtaneeaojlkenmaaGreatDoorChecked
import GoSem.PinnedTables
import GoSem.Claim
import GoSem.ClaimJoined
import GoSem.ClaimMapViews
import Derived.JoinedTies
import Derived.KernelRfl
namespace Go.Proofs.YtaneeaojlkenmaaGreatDoor
/- THE CELL 'sum', in the pinned program and in every row, IS THE sha256 OF THE DUMP (.gsa) THAT YtaneeaojlkenmaaGreatDoorProg.lean LOADS. Nothing in Lean hashes anything: it is a label: what it is worth is what the hold of that sum in a sandbox is worth. -/
noncomputable def Tryz.pinned : Pinned := { name := "ytaneeaojlkenmaagreatdoor", sum := "cac3c5df0be855467743ebfcea830388b760a57369fb7a02a0ee5c47b1e2d677", checked := Tryz.checked }
namespace Rows
def none {H : Type} : Left H := { results := [], args := [] }

/- WHAT THE LISTED PACKAGE-LEVEL VARIABLES READ AS WHEN THE CALL BEGINS. Each datum BY PROGRAM (the guide's laid-datum.mjs) off the statement by which the dump's own 'gosem.cut.vars' lays the variable. In a bare row this is a premise. The card (YtaneeaojlkenmaaGreatDoorCards.lean) ties it to the program's text. -/
def laid_math_bits_deBruijn32tab {H : Type} : DataW H := .agg [.lit (.int .u8 0), .lit (.int .u8 1), .lit (.int .u8 28), .lit (.int .u8 2), .lit (.int .u8 29), .lit (.int .u8 14), .lit (.int .u8 24), .lit (.int .u8 3), .lit (.int .u8 30), .lit (.int .u8 22), .lit (.int .u8 20), .lit (.int .u8 15), .lit (.int .u8 25), .lit (.int .u8 17), .lit (.int .u8 4), .lit (.int .u8 8), .lit (.int .u8 31), .lit (.int .u8 27), .lit (.int .u8 13), .lit (.int .u8 23), .lit (.int .u8 21), .lit (.int .u8 19), .lit (.int .u8 16), .lit (.int .u8 7), .lit (.int .u8 26), .lit (.int .u8 12), .lit (.int .u8 18), .lit (.int .u8 6), .lit (.int .u8 11), .lit (.int .u8 5), .lit (.int .u8 10), .lit (.int .u8 9)]
def laid_math_bits_deBruijn64tab {H : Type} : DataW H := .agg [.lit (.int .u8 0), .lit (.int .u8 1), .lit (.int .u8 56), .lit (.int .u8 2), .lit (.int .u8 57), .lit (.int .u8 49), .lit (.int .u8 28), .lit (.int .u8 3), .lit (.int .u8 61), .lit (.int .u8 58), .lit (.int .u8 42), .lit (.int .u8 50), .lit (.int .u8 38), .lit (.int .u8 29), .lit (.int .u8 17), .lit (.int .u8 4), .lit (.int .u8 62), .lit (.int .u8 47), .lit (.int .u8 59), .lit (.int .u8 36), .lit (.int .u8 45), .lit (.int .u8 43), .lit (.int .u8 51), .lit (.int .u8 22), .lit (.int .u8 53), .lit (.int .u8 39), .lit (.int .u8 33), .lit (.int .u8 30), .lit (.int .u8 24), .lit (.int .u8 18), .lit (.int .u8 12), .lit (.int .u8 5), .lit (.int .u8 63), .lit (.int .u8 55), .lit (.int .u8 48), .lit (.int .u8 27), .lit (.int .u8 60), .lit (.int .u8 41), .lit (.int .u8 37), .lit (.int .u8 16), .lit (.int .u8 46), .lit (.int .u8 35), .lit (.int .u8 44), .lit (.int .u8 21), .lit (.int .u8 52), .lit (.int .u8 32), .lit (.int .u8 23), .lit (.int .u8 11), .lit (.int .u8 54), .lit (.int .u8 26), .lit (.int .u8 40), .lit (.int .u8 15), .lit (.int .u8 34), .lit (.int .u8 20), .lit (.int .u8 31), .lit (.int .u8 10), .lit (.int .u8 25), .lit (.int .u8 14), .lit (.int .u8 19), .lit (.int .u8 9), .lit (.int .u8 13), .lit (.int .u8 8), .lit (.int .u8 7), .lit (.int .u8 6)]
def laid_internal_strconv_uint64pow10 {H : Type} : DataW H := .agg [.lit (.int .u64 1), .lit (.int .u64 10), .lit (.int .u64 100), .lit (.int .u64 1000), .lit (.int .u64 10000), .lit (.int .u64 100000), .lit (.int .u64 1000000), .lit (.int .u64 10000000), .lit (.int .u64 100000000), .lit (.int .u64 1000000000), .lit (.int .u64 10000000000), .lit (.int .u64 100000000000), .lit (.int .u64 1000000000000), .lit (.int .u64 10000000000000), .lit (.int .u64 100000000000000), .lit (.int .u64 1000000000000000), .lit (.int .u64 10000000000000000), .lit (.int .u64 100000000000000000), .lit (.int .u64 1000000000000000000), .lit (.int .u64 10000000000000000000)]
def laid_unicode_utf8_acceptRanges {H : Type} : DataW H := .agg [.agg [.lit (.int .u8 128), .lit (.int .u8 191)], .agg [.lit (.int .u8 160), .lit (.int .u8 191)], .agg [.lit (.int .u8 128), .lit (.int .u8 159)], .agg [.lit (.int .u8 144), .lit (.int .u8 191)], .agg [.lit (.int .u8 128), .lit (.int .u8 143)], .agg [.lit (.int .u8 0), .lit (.int .u8 0)], .agg [.lit (.int .u8 0), .lit (.int .u8 0)], .agg [.lit (.int .u8 0), .lit (.int .u8 0)], .agg [.lit (.int .u8 0), .lit (.int .u8 0)], .agg [.lit (.int .u8 0), .lit (.int .u8 0)], .agg [.lit (.int .u8 0), .lit (.int .u8 0)], .agg [.lit (.int .u8 0), .lit (.int .u8 0)], .agg [.lit (.int .u8 0), .lit (.int .u8 0)], .agg [.lit (.int .u8 0), .lit (.int .u8 0)], .agg [.lit (.int .u8 0), .lit (.int .u8 0)], .agg [.lit (.int .u8 0), .lit (.int .u8 0)]]
def laid_obelus_numeral_signs {H : Type} : DataW H := .agg [.agg [.lit (.int .i64 1000), .lit (.string [109])], .agg [.lit (.int .i64 900), .lit (.string [99, 109])], .agg [.lit (.int .i64 500), .lit (.string [100])], .agg [.lit (.int .i64 400), .lit (.string [99, 100])], .agg [.lit (.int .i64 100), .lit (.string [99])], .agg [.lit (.int .i64 90), .lit (.string [120, 99])], .agg [.lit (.int .i64 50), .lit (.string [108])], .agg [.lit (.int .i64 40), .lit (.string [120, 108])], .agg [.lit (.int .i64 10), .lit (.string [120])], .agg [.lit (.int .i64 9), .lit (.string [105, 120])], .agg [.lit (.int .i64 5), .lit (.string [118])], .agg [.lit (.int .i64 4), .lit (.string [105, 118])], .agg [.lit (.int .i64 1), .lit (.string [105])]]
/-- One of Go's own tables, pinned by name: the form's constant. -/
def laid_unicode_CaseRanges : DataW Unit := Go.Pinned.caseRanges
/-- One of Go's own tables, pinned by name: the form's constant. -/
def laid_unicode_utf8_first : DataW Unit := Go.Pinned.utf8First

/-- 'obeluslaw10.LeveltextParses': WHATEVER THE INPUT: true; the input reads as it did. -/
def leveltextParsesSpec : ChangeSpec := { name := "leveltextParses", fn := fun _ => fun
  | [d] => { results := [.lit (.bool true)], args := [d] }
  | _ => none }
def leveltextParsesRow : OpenClaim := { program := "ytaneeaojlkenmaagreatdoor", sum := "cac3c5df0be855467743ebfcea830388b760a57369fb7a02a0ee5c47b1e2d677", func := "obelus/obeluslaw10.LeveltextParses", spec := "leveltextParses", inPlace := ["internal/abi.NoEscape", "internal/bytealg.MakeNoZero"], unfollowed := true, recurses := true, named := ["internal/strconv.uint64pow10", "math/bits.deBruijn32tab", "math/bits.deBruijn64tab", "unicode/utf8.first", "unicode/utf8.acceptRanges", "unicode.CaseRanges", "obelus/numeral.signs"], apart := false, laid := [("math/bits.deBruijn32tab", laid_math_bits_deBruijn32tab), ("math/bits.deBruijn64tab", laid_math_bits_deBruijn64tab), ("internal/strconv.uint64pow10", laid_internal_strconv_uint64pow10), ("unicode/utf8.acceptRanges", laid_unicode_utf8_acceptRanges), ("obelus/numeral.signs", laid_obelus_numeral_signs), ("unicode.CaseRanges", laid_unicode_CaseRanges), ("unicode/utf8.first", laid_unicode_utf8_first)] }
def LeveltextParsesSaid : Prop := leveltextParsesRow.holds Tryz.pinned (OpenSpec.ofChange leveltextParsesSpec)

/-- ITS FALSE NEIGHBOUR: 'it returns false'. Refute it at one input. -/
def leveltextParsesWrong : ChangeSpec := { name := "leveltextParses", fn := fun _ => fun
  | [d] => { results := [.lit (.bool false)], args := [d] }
  | _ => none }
def LeveltextParsesWrongFalsely : Prop := leveltextParsesRow.holds Tryz.pinned (OpenSpec.ofChange leveltextParsesWrong)

/-- 'obeluslaw10.LeveltextChecks': WHATEVER THE INPUT: true; the input reads as it did. -/
def leveltextChecksSpec : ChangeSpec := { name := "leveltextChecks", fn := fun _ => fun
  | [d1, d2, d3] => { results := [.lit (.bool true)], args := [d1, d2, d3] }
  | _ => none }
def leveltextChecksRow : OpenClaim := { program := "ytaneeaojlkenmaagreatdoor", sum := "cac3c5df0be855467743ebfcea830388b760a57369fb7a02a0ee5c47b1e2d677", func := "obelus/obeluslaw10.LeveltextChecks", spec := "leveltextChecks", inPlace := ["internal/abi.NoEscape", "internal/bytealg.MakeNoZero"], unfollowed := true, recurses := true, named := ["internal/strconv.uint64pow10", "math/bits.deBruijn32tab", "math/bits.deBruijn64tab", "unicode/utf8.first", "unicode/utf8.acceptRanges", "unicode.CaseRanges", "obelus/numeral.signs"], apart := false, laid := [("math/bits.deBruijn32tab", laid_math_bits_deBruijn32tab), ("math/bits.deBruijn64tab", laid_math_bits_deBruijn64tab), ("internal/strconv.uint64pow10", laid_internal_strconv_uint64pow10), ("unicode/utf8.acceptRanges", laid_unicode_utf8_acceptRanges), ("obelus/numeral.signs", laid_obelus_numeral_signs), ("unicode.CaseRanges", laid_unicode_CaseRanges), ("unicode/utf8.first", laid_unicode_utf8_first)] }
def LeveltextChecksSaid : Prop := leveltextChecksRow.holds Tryz.pinned (OpenSpec.ofChange leveltextChecksSpec)

/-- ITS FALSE NEIGHBOUR: 'it returns false'. Refute it at one input. -/
def leveltextChecksWrong : ChangeSpec := { name := "leveltextChecks", fn := fun _ => fun
  | [d1, d2, d3] => { results := [.lit (.bool false)], args := [d1, d2, d3] }
  | _ => none }
def LeveltextChecksWrongFalsely : Prop := leveltextChecksRow.holds Tryz.pinned (OpenSpec.ofChange leveltextChecksWrong)

/-- 'obeluslaw10.LeveltextFills': WHATEVER THE INPUT: true; the input reads as it did. -/
def leveltextFillsSpec : ChangeSpec := { name := "leveltextFills", fn := fun _ => fun
  | [d1, d2, d3] => { results := [.lit (.bool true)], args := [d1, d2, d3] }
  | _ => none }
def leveltextFillsRow : OpenClaim := { program := "ytaneeaojlkenmaagreatdoor", sum := "cac3c5df0be855467743ebfcea830388b760a57369fb7a02a0ee5c47b1e2d677", func := "obelus/obeluslaw10.LeveltextFills", spec := "leveltextFills", inPlace := ["internal/abi.NoEscape", "internal/bytealg.MakeNoZero"], unfollowed := true, recurses := true, named := ["internal/strconv.uint64pow10", "math/bits.deBruijn32tab", "math/bits.deBruijn64tab", "unicode/utf8.first", "unicode/utf8.acceptRanges", "unicode.CaseRanges", "obelus/numeral.signs"], apart := false, laid := [("math/bits.deBruijn32tab", laid_math_bits_deBruijn32tab), ("math/bits.deBruijn64tab", laid_math_bits_deBruijn64tab), ("internal/strconv.uint64pow10", laid_internal_strconv_uint64pow10), ("unicode/utf8.acceptRanges", laid_unicode_utf8_acceptRanges), ("obelus/numeral.signs", laid_obelus_numeral_signs), ("unicode.CaseRanges", laid_unicode_CaseRanges), ("unicode/utf8.first", laid_unicode_utf8_first)] }
def LeveltextFillsSaid : Prop := leveltextFillsRow.holds Tryz.pinned (OpenSpec.ofChange leveltextFillsSpec)

/-- ITS FALSE NEIGHBOUR: 'it returns false'. Refute it at one input. -/
def leveltextFillsWrong : ChangeSpec := { name := "leveltextFills", fn := fun _ => fun
  | [d1, d2, d3] => { results := [.lit (.bool false)], args := [d1, d2, d3] }
  | _ => none }
def LeveltextFillsWrongFalsely : Prop := leveltextFillsRow.holds Tryz.pinned (OpenSpec.ofChange leveltextFillsWrong)

/-- 'obeluslaw10.LeveltextFits': WHATEVER THE INPUT: true; the input reads as it did. -/
def leveltextFitsSpec : ChangeSpec := { name := "leveltextFits", fn := fun _ => fun
  | [d1, d2, d3] => { results := [.lit (.bool true)], args := [d1, d2, d3] }
  | _ => none }
def leveltextFitsRow : OpenClaim := { program := "ytaneeaojlkenmaagreatdoor", sum := "cac3c5df0be855467743ebfcea830388b760a57369fb7a02a0ee5c47b1e2d677", func := "obelus/obeluslaw10.LeveltextFits", spec := "leveltextFits", inPlace := ["internal/abi.NoEscape", "internal/bytealg.MakeNoZero"], unfollowed := true, recurses := true, named := ["internal/strconv.uint64pow10", "math/bits.deBruijn32tab", "math/bits.deBruijn64tab", "unicode/utf8.first", "unicode/utf8.acceptRanges", "unicode.CaseRanges", "obelus/numeral.signs"], apart := false, laid := [("math/bits.deBruijn32tab", laid_math_bits_deBruijn32tab), ("math/bits.deBruijn64tab", laid_math_bits_deBruijn64tab), ("internal/strconv.uint64pow10", laid_internal_strconv_uint64pow10), ("unicode/utf8.acceptRanges", laid_unicode_utf8_acceptRanges), ("obelus/numeral.signs", laid_obelus_numeral_signs), ("unicode.CaseRanges", laid_unicode_CaseRanges), ("unicode/utf8.first", laid_unicode_utf8_first)] }
def LeveltextFitsSaid : Prop := leveltextFitsRow.holds Tryz.pinned (OpenSpec.ofChange leveltextFitsSpec)

/-- ITS FALSE NEIGHBOUR: 'it returns false'. Refute it at one input. -/
def leveltextFitsWrong : ChangeSpec := { name := "leveltextFits", fn := fun _ => fun
  | [d1, d2, d3] => { results := [.lit (.bool false)], args := [d1, d2, d3] }
  | _ => none }
def LeveltextFitsWrongFalsely : Prop := leveltextFitsRow.holds Tryz.pinned (OpenSpec.ofChange leveltextFitsWrong)

/-- 'obeluslaw10.LeveltextFillFits': WHATEVER THE INPUT: true; the input reads as it did. -/
def leveltextFillFitsSpec : ChangeSpec := { name := "leveltextFillFits", fn := fun _ => fun
  | [d1, d2, d3] => { results := [.lit (.bool true)], args := [d1, d2, d3] }
  | _ => none }
def leveltextFillFitsRow : OpenClaim := { program := "ytaneeaojlkenmaagreatdoor", sum := "cac3c5df0be855467743ebfcea830388b760a57369fb7a02a0ee5c47b1e2d677", func := "obelus/obeluslaw10.LeveltextFillFits", spec := "leveltextFillFits", inPlace := ["internal/abi.NoEscape", "internal/bytealg.MakeNoZero"], unfollowed := true, recurses := true, named := ["internal/strconv.uint64pow10", "math/bits.deBruijn32tab", "math/bits.deBruijn64tab", "unicode/utf8.first", "unicode/utf8.acceptRanges", "unicode.CaseRanges", "obelus/numeral.signs"], apart := false, laid := [("math/bits.deBruijn32tab", laid_math_bits_deBruijn32tab), ("math/bits.deBruijn64tab", laid_math_bits_deBruijn64tab), ("internal/strconv.uint64pow10", laid_internal_strconv_uint64pow10), ("unicode/utf8.acceptRanges", laid_unicode_utf8_acceptRanges), ("obelus/numeral.signs", laid_obelus_numeral_signs), ("unicode.CaseRanges", laid_unicode_CaseRanges), ("unicode/utf8.first", laid_unicode_utf8_first)] }
def LeveltextFillFitsSaid : Prop := leveltextFillFitsRow.holds Tryz.pinned (OpenSpec.ofChange leveltextFillFitsSpec)

/-- ITS FALSE NEIGHBOUR: 'it returns false'. Refute it at one input. -/
def leveltextFillFitsWrong : ChangeSpec := { name := "leveltextFillFits", fn := fun _ => fun
  | [d1, d2, d3] => { results := [.lit (.bool false)], args := [d1, d2, d3] }
  | _ => none }
def LeveltextFillFitsWrongFalsely : Prop := leveltextFillFitsRow.holds Tryz.pinned (OpenSpec.ofChange leveltextFillFitsWrong)

/-- 'obeluslaw10.LeveltextDepends': WHATEVER THE INPUT: true; the input reads as it did. -/
def leveltextDependsSpec : ChangeSpec := { name := "leveltextDepends", fn := fun _ => fun
  | [d1, d2, d3] => { results := [.lit (.bool true)], args := [d1, d2, d3] }
  | _ => none }
def leveltextDependsRow : OpenClaim := { program := "ytaneeaojlkenmaagreatdoor", sum := "cac3c5df0be855467743ebfcea830388b760a57369fb7a02a0ee5c47b1e2d677", func := "obelus/obeluslaw10.LeveltextDepends", spec := "leveltextDepends", inPlace := ["internal/abi.NoEscape", "internal/bytealg.MakeNoZero"], unfollowed := true, recurses := true, named := ["internal/strconv.uint64pow10", "math/bits.deBruijn32tab", "math/bits.deBruijn64tab", "unicode/utf8.first", "unicode/utf8.acceptRanges", "unicode.CaseRanges", "obelus/numeral.signs"], apart := false, laid := [("math/bits.deBruijn32tab", laid_math_bits_deBruijn32tab), ("math/bits.deBruijn64tab", laid_math_bits_deBruijn64tab), ("internal/strconv.uint64pow10", laid_internal_strconv_uint64pow10), ("unicode/utf8.acceptRanges", laid_unicode_utf8_acceptRanges), ("obelus/numeral.signs", laid_obelus_numeral_signs), ("unicode.CaseRanges", laid_unicode_CaseRanges), ("unicode/utf8.first", laid_unicode_utf8_first)] }
def LeveltextDependsSaid : Prop := leveltextDependsRow.holds Tryz.pinned (OpenSpec.ofChange leveltextDependsSpec)

/-- ITS FALSE NEIGHBOUR: 'it returns false'. Refute it at one input. -/
def leveltextDependsWrong : ChangeSpec := { name := "leveltextDepends", fn := fun _ => fun
  | [d1, d2, d3] => { results := [.lit (.bool false)], args := [d1, d2, d3] }
  | _ => none }
def LeveltextDependsWrongFalsely : Prop := leveltextDependsRow.holds Tryz.pinned (OpenSpec.ofChange leveltextDependsWrong)

/-- 'obeluslaw10.LeveltextShifts': WHATEVER THE INPUT: true; the input reads as it did. -/
def leveltextShiftsSpec : ChangeSpec := { name := "leveltextShifts", fn := fun _ => fun
  | [d1, d2] => { results := [.lit (.bool true)], args := [d1, d2] }
  | _ => none }
def leveltextShiftsRow : OpenClaim := { program := "ytaneeaojlkenmaagreatdoor", sum := "cac3c5df0be855467743ebfcea830388b760a57369fb7a02a0ee5c47b1e2d677", func := "obelus/obeluslaw10.LeveltextShifts", spec := "leveltextShifts", inPlace := ["internal/abi.NoEscape", "internal/bytealg.CountString", "internal/bytealg.IndexByteString", "internal/bytealg.IndexString", "internal/bytealg.MakeNoZero"], unfollowed := true, recurses := true, named := ["internal/bytealg.MaxLen", "unicode/utf8.first", "unicode/utf8.acceptRanges", "internal/strconv.uint64pow10", "math/bits.deBruijn32tab", "math/bits.deBruijn64tab", "unicode.CaseRanges", "obelus/numeral.signs"], apart := false, laid := [("math/bits.deBruijn32tab", laid_math_bits_deBruijn32tab), ("math/bits.deBruijn64tab", laid_math_bits_deBruijn64tab), ("internal/strconv.uint64pow10", laid_internal_strconv_uint64pow10), ("unicode/utf8.acceptRanges", laid_unicode_utf8_acceptRanges), ("obelus/numeral.signs", laid_obelus_numeral_signs), ("unicode.CaseRanges", laid_unicode_CaseRanges), ("unicode/utf8.first", laid_unicode_utf8_first)] }
def LeveltextShiftsSaid : Prop := leveltextShiftsRow.holds Tryz.pinned (OpenSpec.ofChange leveltextShiftsSpec)

/-- ITS FALSE NEIGHBOUR: 'it returns false'. Refute it at one input. -/
def leveltextShiftsWrong : ChangeSpec := { name := "leveltextShifts", fn := fun _ => fun
  | [d1, d2] => { results := [.lit (.bool false)], args := [d1, d2] }
  | _ => none }
def LeveltextShiftsWrongFalsely : Prop := leveltextShiftsRow.holds Tryz.pinned (OpenSpec.ofChange leveltextShiftsWrong)

/-- 'obeluslaw10.LeveltextPrints': WHATEVER THE INPUT: true; the input reads as it did. -/
def leveltextPrintsSpec : ChangeSpec := { name := "leveltextPrints", fn := fun _ => fun
  | [d] => { results := [.lit (.bool true)], args := [d] }
  | _ => none }
def leveltextPrintsRow : OpenClaim := { program := "ytaneeaojlkenmaagreatdoor", sum := "cac3c5df0be855467743ebfcea830388b760a57369fb7a02a0ee5c47b1e2d677", func := "obelus/obeluslaw10.LeveltextPrints", spec := "leveltextPrints", inPlace := ["internal/bytealg.CountString", "internal/bytealg.IndexByteString", "internal/bytealg.IndexString", "internal/abi.NoEscape", "internal/bytealg.MakeNoZero"], unfollowed := true, recurses := true, named := ["internal/bytealg.MaxLen", "unicode/utf8.first", "unicode/utf8.acceptRanges", "internal/strconv.uint64pow10", "math/bits.deBruijn32tab", "math/bits.deBruijn64tab", "unicode.CaseRanges", "obelus/numeral.signs"], apart := false, laid := [("math/bits.deBruijn32tab", laid_math_bits_deBruijn32tab), ("math/bits.deBruijn64tab", laid_math_bits_deBruijn64tab), ("internal/strconv.uint64pow10", laid_internal_strconv_uint64pow10), ("unicode/utf8.acceptRanges", laid_unicode_utf8_acceptRanges), ("obelus/numeral.signs", laid_obelus_numeral_signs), ("unicode.CaseRanges", laid_unicode_CaseRanges), ("unicode/utf8.first", laid_unicode_utf8_first)] }
def LeveltextPrintsSaid : Prop := leveltextPrintsRow.holds Tryz.pinned (OpenSpec.ofChange leveltextPrintsSpec)

/-- ITS FALSE NEIGHBOUR: 'it returns false'. Refute it at one input. -/
def leveltextPrintsWrong : ChangeSpec := { name := "leveltextPrints", fn := fun _ => fun
  | [d] => { results := [.lit (.bool false)], args := [d] }
  | _ => none }
def LeveltextPrintsWrongFalsely : Prop := leveltextPrintsRow.holds Tryz.pinned (OpenSpec.ofChange leveltextPrintsWrong)

/-- 'obeluslaw10.LeveltextReturns': WHATEVER THE INPUT: true; the input reads as it did. -/
def leveltextReturnsSpec : ChangeSpec := { name := "leveltextReturns", fn := fun _ => fun
  | [d] => { results := [.lit (.bool true)], args := [d] }
  | _ => none }
def leveltextReturnsRow : OpenClaim := { program := "ytaneeaojlkenmaagreatdoor", sum := "cac3c5df0be855467743ebfcea830388b760a57369fb7a02a0ee5c47b1e2d677", func := "obelus/obeluslaw10.LeveltextReturns", spec := "leveltextReturns", inPlace := ["internal/abi.NoEscape", "internal/bytealg.MakeNoZero", "internal/bytealg.CountString", "internal/bytealg.IndexByteString", "internal/bytealg.IndexString"], unfollowed := true, recurses := true, named := ["internal/strconv.uint64pow10", "math/bits.deBruijn32tab", "math/bits.deBruijn64tab", "unicode/utf8.first", "unicode/utf8.acceptRanges", "unicode.CaseRanges", "obelus/numeral.signs", "internal/bytealg.MaxLen"], apart := false, laid := [("math/bits.deBruijn32tab", laid_math_bits_deBruijn32tab), ("math/bits.deBruijn64tab", laid_math_bits_deBruijn64tab), ("internal/strconv.uint64pow10", laid_internal_strconv_uint64pow10), ("unicode/utf8.acceptRanges", laid_unicode_utf8_acceptRanges), ("obelus/numeral.signs", laid_obelus_numeral_signs), ("unicode.CaseRanges", laid_unicode_CaseRanges), ("unicode/utf8.first", laid_unicode_utf8_first)] }
def LeveltextReturnsSaid : Prop := leveltextReturnsRow.holds Tryz.pinned (OpenSpec.ofChange leveltextReturnsSpec)

/-- ITS FALSE NEIGHBOUR: 'it returns false'. Refute it at one input. -/
def leveltextReturnsWrong : ChangeSpec := { name := "leveltextReturns", fn := fun _ => fun
  | [d] => { results := [.lit (.bool false)], args := [d] }
  | _ => none }
def LeveltextReturnsWrongFalsely : Prop := leveltextReturnsRow.holds Tryz.pinned (OpenSpec.ofChange leveltextReturnsWrong)

/-- 'obeluslaw10.LeveltextUses': WHATEVER THE INPUT: true; the input reads as it did. -/
def leveltextUsesSpec : ChangeSpec := { name := "leveltextUses", fn := fun _ => fun
  | [d] => { results := [.lit (.bool true)], args := [d] }
  | _ => none }
def leveltextUsesRow : OpenClaim := { program := "ytaneeaojlkenmaagreatdoor", sum := "cac3c5df0be855467743ebfcea830388b760a57369fb7a02a0ee5c47b1e2d677", func := "obelus/obeluslaw10.LeveltextUses", spec := "leveltextUses", inPlace := ["internal/abi.NoEscape", "internal/bytealg.MakeNoZero"], unfollowed := true, recurses := true, named := ["internal/strconv.uint64pow10", "math/bits.deBruijn32tab", "math/bits.deBruijn64tab", "unicode/utf8.first", "unicode/utf8.acceptRanges", "unicode.CaseRanges", "obelus/numeral.signs"], apart := false, laid := [("math/bits.deBruijn32tab", laid_math_bits_deBruijn32tab), ("math/bits.deBruijn64tab", laid_math_bits_deBruijn64tab), ("internal/strconv.uint64pow10", laid_internal_strconv_uint64pow10), ("unicode/utf8.acceptRanges", laid_unicode_utf8_acceptRanges), ("obelus/numeral.signs", laid_obelus_numeral_signs), ("unicode.CaseRanges", laid_unicode_CaseRanges), ("unicode/utf8.first", laid_unicode_utf8_first)] }
def LeveltextUsesSaid : Prop := leveltextUsesRow.holds Tryz.pinned (OpenSpec.ofChange leveltextUsesSpec)

/-- ITS FALSE NEIGHBOUR: 'it returns false'. Refute it at one input. -/
def leveltextUsesWrong : ChangeSpec := { name := "leveltextUses", fn := fun _ => fun
  | [d] => { results := [.lit (.bool false)], args := [d] }
  | _ => none }
def LeveltextUsesWrongFalsely : Prop := leveltextUsesRow.holds Tryz.pinned (OpenSpec.ofChange leveltextUsesWrong)

/- THE SECOND FORM. 'bulk': how many values and letters a reading holds, each counted each time it is reached (what is shared counts as often as it is met; a slice's spare places count too). A statement '..UptoSaid' is the law's where the arguments, and the package variables that the reading takes, are together of bulk at most 1048576: NARROWER than '..Said'. Prove '..Said' where nothing that the law and all that it calls make is longer than what came in: it says more and counts as full. Else prove '..UptoSaid'. A law counts once. -/
mutual
def uptoBulk {H : Type} : DataW H → Nat
  | .lit (.string bytes) => bytes.length + 1
  | .lit _ => 1
  | .nil => 1
  | .ptr d => uptoBulk d + 1
  | .slice elems spare => uptoBulkAll elems + uptoBulkAll spare + 1
  | .agg parts => uptoBulkAll parts + 1
  | .iface _ d => uptoBulk d + 1
  | .map entries => uptoBulkEntries entries + 1
  | .held _ => 1
def uptoBulkAll {H : Type} : List (DataW H) → Nat
  | [] => 0
  | d :: r => uptoBulk d + uptoBulkAll r
def uptoBulkEntries {H : Type} : List (Lit × DataW H) → Nat
  | [] => 0
  | x :: r => uptoBulkEntry x + uptoBulkEntries r
def uptoBulkEntry {H : Type} : Lit × DataW H → Nat
  | (.string bytes, d) => bytes.length + uptoBulk d + 1
  | (_, d) => uptoBulk d + 1
 end
def uptoSmall : (H : Type) → List (DataW H) → Bool := fun _ ds => decide (uptoBulkAll ds ≤ 1048576)
def OpenSpec.upto (s : _root_.Go.ChangeSpec) : _root_.Go.OpenSpec := { _root_.Go.OpenSpec.ofChange s with cond := some uptoSmall }

/-- 'obeluslaw10.LeveltextParses', WHERE WHAT IT READS IS OF BULK AT MOST 1048576: true; the input reads as it did. -/
def leveltextParsesUptoRow : OpenClaim := { program := "ytaneeaojlkenmaagreatdoor", sum := "cac3c5df0be855467743ebfcea830388b760a57369fb7a02a0ee5c47b1e2d677", func := "obelus/obeluslaw10.LeveltextParses", spec := "leveltextParses", inPlace := ["internal/abi.NoEscape", "internal/bytealg.MakeNoZero"], unfollowed := true, recurses := true, named := ["internal/strconv.uint64pow10", "math/bits.deBruijn32tab", "math/bits.deBruijn64tab", "unicode/utf8.first", "unicode/utf8.acceptRanges", "unicode.CaseRanges", "obelus/numeral.signs"], apart := false, laid := [("math/bits.deBruijn32tab", laid_math_bits_deBruijn32tab), ("math/bits.deBruijn64tab", laid_math_bits_deBruijn64tab), ("internal/strconv.uint64pow10", laid_internal_strconv_uint64pow10), ("unicode/utf8.acceptRanges", laid_unicode_utf8_acceptRanges), ("obelus/numeral.signs", laid_obelus_numeral_signs), ("unicode.CaseRanges", laid_unicode_CaseRanges), ("unicode/utf8.first", laid_unicode_utf8_first)], narrowed := true }
def LeveltextParsesUptoSaid : Prop := leveltextParsesUptoRow.holds Tryz.pinned (OpenSpec.upto leveltextParsesSpec)

/-- 'obeluslaw10.LeveltextChecks', WHERE WHAT IT READS IS OF BULK AT MOST 1048576: true; the input reads as it did. -/
def leveltextChecksUptoRow : OpenClaim := { program := "ytaneeaojlkenmaagreatdoor", sum := "cac3c5df0be855467743ebfcea830388b760a57369fb7a02a0ee5c47b1e2d677", func := "obelus/obeluslaw10.LeveltextChecks", spec := "leveltextChecks", inPlace := ["internal/abi.NoEscape", "internal/bytealg.MakeNoZero"], unfollowed := true, recurses := true, named := ["internal/strconv.uint64pow10", "math/bits.deBruijn32tab", "math/bits.deBruijn64tab", "unicode/utf8.first", "unicode/utf8.acceptRanges", "unicode.CaseRanges", "obelus/numeral.signs"], apart := false, laid := [("math/bits.deBruijn32tab", laid_math_bits_deBruijn32tab), ("math/bits.deBruijn64tab", laid_math_bits_deBruijn64tab), ("internal/strconv.uint64pow10", laid_internal_strconv_uint64pow10), ("unicode/utf8.acceptRanges", laid_unicode_utf8_acceptRanges), ("obelus/numeral.signs", laid_obelus_numeral_signs), ("unicode.CaseRanges", laid_unicode_CaseRanges), ("unicode/utf8.first", laid_unicode_utf8_first)], narrowed := true }
def LeveltextChecksUptoSaid : Prop := leveltextChecksUptoRow.holds Tryz.pinned (OpenSpec.upto leveltextChecksSpec)

/-- 'obeluslaw10.LeveltextFills', WHERE WHAT IT READS IS OF BULK AT MOST 1048576: true; the input reads as it did. -/
def leveltextFillsUptoRow : OpenClaim := { program := "ytaneeaojlkenmaagreatdoor", sum := "cac3c5df0be855467743ebfcea830388b760a57369fb7a02a0ee5c47b1e2d677", func := "obelus/obeluslaw10.LeveltextFills", spec := "leveltextFills", inPlace := ["internal/abi.NoEscape", "internal/bytealg.MakeNoZero"], unfollowed := true, recurses := true, named := ["internal/strconv.uint64pow10", "math/bits.deBruijn32tab", "math/bits.deBruijn64tab", "unicode/utf8.first", "unicode/utf8.acceptRanges", "unicode.CaseRanges", "obelus/numeral.signs"], apart := false, laid := [("math/bits.deBruijn32tab", laid_math_bits_deBruijn32tab), ("math/bits.deBruijn64tab", laid_math_bits_deBruijn64tab), ("internal/strconv.uint64pow10", laid_internal_strconv_uint64pow10), ("unicode/utf8.acceptRanges", laid_unicode_utf8_acceptRanges), ("obelus/numeral.signs", laid_obelus_numeral_signs), ("unicode.CaseRanges", laid_unicode_CaseRanges), ("unicode/utf8.first", laid_unicode_utf8_first)], narrowed := true }
def LeveltextFillsUptoSaid : Prop := leveltextFillsUptoRow.holds Tryz.pinned (OpenSpec.upto leveltextFillsSpec)

/-- 'obeluslaw10.LeveltextFits', WHERE WHAT IT READS IS OF BULK AT MOST 1048576: true; the input reads as it did. -/
def leveltextFitsUptoRow : OpenClaim := { program := "ytaneeaojlkenmaagreatdoor", sum := "cac3c5df0be855467743ebfcea830388b760a57369fb7a02a0ee5c47b1e2d677", func := "obelus/obeluslaw10.LeveltextFits", spec := "leveltextFits", inPlace := ["internal/abi.NoEscape", "internal/bytealg.MakeNoZero"], unfollowed := true, recurses := true, named := ["internal/strconv.uint64pow10", "math/bits.deBruijn32tab", "math/bits.deBruijn64tab", "unicode/utf8.first", "unicode/utf8.acceptRanges", "unicode.CaseRanges", "obelus/numeral.signs"], apart := false, laid := [("math/bits.deBruijn32tab", laid_math_bits_deBruijn32tab), ("math/bits.deBruijn64tab", laid_math_bits_deBruijn64tab), ("internal/strconv.uint64pow10", laid_internal_strconv_uint64pow10), ("unicode/utf8.acceptRanges", laid_unicode_utf8_acceptRanges), ("obelus/numeral.signs", laid_obelus_numeral_signs), ("unicode.CaseRanges", laid_unicode_CaseRanges), ("unicode/utf8.first", laid_unicode_utf8_first)], narrowed := true }
def LeveltextFitsUptoSaid : Prop := leveltextFitsUptoRow.holds Tryz.pinned (OpenSpec.upto leveltextFitsSpec)

/-- 'obeluslaw10.LeveltextFillFits', WHERE WHAT IT READS IS OF BULK AT MOST 1048576: true; the input reads as it did. -/
def leveltextFillFitsUptoRow : OpenClaim := { program := "ytaneeaojlkenmaagreatdoor", sum := "cac3c5df0be855467743ebfcea830388b760a57369fb7a02a0ee5c47b1e2d677", func := "obelus/obeluslaw10.LeveltextFillFits", spec := "leveltextFillFits", inPlace := ["internal/abi.NoEscape", "internal/bytealg.MakeNoZero"], unfollowed := true, recurses := true, named := ["internal/strconv.uint64pow10", "math/bits.deBruijn32tab", "math/bits.deBruijn64tab", "unicode/utf8.first", "unicode/utf8.acceptRanges", "unicode.CaseRanges", "obelus/numeral.signs"], apart := false, laid := [("math/bits.deBruijn32tab", laid_math_bits_deBruijn32tab), ("math/bits.deBruijn64tab", laid_math_bits_deBruijn64tab), ("internal/strconv.uint64pow10", laid_internal_strconv_uint64pow10), ("unicode/utf8.acceptRanges", laid_unicode_utf8_acceptRanges), ("obelus/numeral.signs", laid_obelus_numeral_signs), ("unicode.CaseRanges", laid_unicode_CaseRanges), ("unicode/utf8.first", laid_unicode_utf8_first)], narrowed := true }
def LeveltextFillFitsUptoSaid : Prop := leveltextFillFitsUptoRow.holds Tryz.pinned (OpenSpec.upto leveltextFillFitsSpec)

/-- 'obeluslaw10.LeveltextDepends', WHERE WHAT IT READS IS OF BULK AT MOST 1048576: true; the input reads as it did. -/
def leveltextDependsUptoRow : OpenClaim := { program := "ytaneeaojlkenmaagreatdoor", sum := "cac3c5df0be855467743ebfcea830388b760a57369fb7a02a0ee5c47b1e2d677", func := "obelus/obeluslaw10.LeveltextDepends", spec := "leveltextDepends", inPlace := ["internal/abi.NoEscape", "internal/bytealg.MakeNoZero"], unfollowed := true, recurses := true, named := ["internal/strconv.uint64pow10", "math/bits.deBruijn32tab", "math/bits.deBruijn64tab", "unicode/utf8.first", "unicode/utf8.acceptRanges", "unicode.CaseRanges", "obelus/numeral.signs"], apart := false, laid := [("math/bits.deBruijn32tab", laid_math_bits_deBruijn32tab), ("math/bits.deBruijn64tab", laid_math_bits_deBruijn64tab), ("internal/strconv.uint64pow10", laid_internal_strconv_uint64pow10), ("unicode/utf8.acceptRanges", laid_unicode_utf8_acceptRanges), ("obelus/numeral.signs", laid_obelus_numeral_signs), ("unicode.CaseRanges", laid_unicode_CaseRanges), ("unicode/utf8.first", laid_unicode_utf8_first)], narrowed := true }
def LeveltextDependsUptoSaid : Prop := leveltextDependsUptoRow.holds Tryz.pinned (OpenSpec.upto leveltextDependsSpec)

/-- 'obeluslaw10.LeveltextShifts', WHERE WHAT IT READS IS OF BULK AT MOST 1048576: true; the input reads as it did. -/
def leveltextShiftsUptoRow : OpenClaim := { program := "ytaneeaojlkenmaagreatdoor", sum := "cac3c5df0be855467743ebfcea830388b760a57369fb7a02a0ee5c47b1e2d677", func := "obelus/obeluslaw10.LeveltextShifts", spec := "leveltextShifts", inPlace := ["internal/abi.NoEscape", "internal/bytealg.CountString", "internal/bytealg.IndexByteString", "internal/bytealg.IndexString", "internal/bytealg.MakeNoZero"], unfollowed := true, recurses := true, named := ["internal/bytealg.MaxLen", "unicode/utf8.first", "unicode/utf8.acceptRanges", "internal/strconv.uint64pow10", "math/bits.deBruijn32tab", "math/bits.deBruijn64tab", "unicode.CaseRanges", "obelus/numeral.signs"], apart := false, laid := [("math/bits.deBruijn32tab", laid_math_bits_deBruijn32tab), ("math/bits.deBruijn64tab", laid_math_bits_deBruijn64tab), ("internal/strconv.uint64pow10", laid_internal_strconv_uint64pow10), ("unicode/utf8.acceptRanges", laid_unicode_utf8_acceptRanges), ("obelus/numeral.signs", laid_obelus_numeral_signs), ("unicode.CaseRanges", laid_unicode_CaseRanges), ("unicode/utf8.first", laid_unicode_utf8_first)], narrowed := true }
def LeveltextShiftsUptoSaid : Prop := leveltextShiftsUptoRow.holds Tryz.pinned (OpenSpec.upto leveltextShiftsSpec)

/-- 'obeluslaw10.LeveltextPrints', WHERE WHAT IT READS IS OF BULK AT MOST 1048576: true; the input reads as it did. -/
def leveltextPrintsUptoRow : OpenClaim := { program := "ytaneeaojlkenmaagreatdoor", sum := "cac3c5df0be855467743ebfcea830388b760a57369fb7a02a0ee5c47b1e2d677", func := "obelus/obeluslaw10.LeveltextPrints", spec := "leveltextPrints", inPlace := ["internal/bytealg.CountString", "internal/bytealg.IndexByteString", "internal/bytealg.IndexString", "internal/abi.NoEscape", "internal/bytealg.MakeNoZero"], unfollowed := true, recurses := true, named := ["internal/bytealg.MaxLen", "unicode/utf8.first", "unicode/utf8.acceptRanges", "internal/strconv.uint64pow10", "math/bits.deBruijn32tab", "math/bits.deBruijn64tab", "unicode.CaseRanges", "obelus/numeral.signs"], apart := false, laid := [("math/bits.deBruijn32tab", laid_math_bits_deBruijn32tab), ("math/bits.deBruijn64tab", laid_math_bits_deBruijn64tab), ("internal/strconv.uint64pow10", laid_internal_strconv_uint64pow10), ("unicode/utf8.acceptRanges", laid_unicode_utf8_acceptRanges), ("obelus/numeral.signs", laid_obelus_numeral_signs), ("unicode.CaseRanges", laid_unicode_CaseRanges), ("unicode/utf8.first", laid_unicode_utf8_first)], narrowed := true }
def LeveltextPrintsUptoSaid : Prop := leveltextPrintsUptoRow.holds Tryz.pinned (OpenSpec.upto leveltextPrintsSpec)

/-- 'obeluslaw10.LeveltextReturns', WHERE WHAT IT READS IS OF BULK AT MOST 1048576: true; the input reads as it did. -/
def leveltextReturnsUptoRow : OpenClaim := { program := "ytaneeaojlkenmaagreatdoor", sum := "cac3c5df0be855467743ebfcea830388b760a57369fb7a02a0ee5c47b1e2d677", func := "obelus/obeluslaw10.LeveltextReturns", spec := "leveltextReturns", inPlace := ["internal/abi.NoEscape", "internal/bytealg.MakeNoZero", "internal/bytealg.CountString", "internal/bytealg.IndexByteString", "internal/bytealg.IndexString"], unfollowed := true, recurses := true, named := ["internal/strconv.uint64pow10", "math/bits.deBruijn32tab", "math/bits.deBruijn64tab", "unicode/utf8.first", "unicode/utf8.acceptRanges", "unicode.CaseRanges", "obelus/numeral.signs", "internal/bytealg.MaxLen"], apart := false, laid := [("math/bits.deBruijn32tab", laid_math_bits_deBruijn32tab), ("math/bits.deBruijn64tab", laid_math_bits_deBruijn64tab), ("internal/strconv.uint64pow10", laid_internal_strconv_uint64pow10), ("unicode/utf8.acceptRanges", laid_unicode_utf8_acceptRanges), ("obelus/numeral.signs", laid_obelus_numeral_signs), ("unicode.CaseRanges", laid_unicode_CaseRanges), ("unicode/utf8.first", laid_unicode_utf8_first)], narrowed := true }
def LeveltextReturnsUptoSaid : Prop := leveltextReturnsUptoRow.holds Tryz.pinned (OpenSpec.upto leveltextReturnsSpec)

/-- 'obeluslaw10.LeveltextUses', WHERE WHAT IT READS IS OF BULK AT MOST 1048576: true; the input reads as it did. -/
def leveltextUsesUptoRow : OpenClaim := { program := "ytaneeaojlkenmaagreatdoor", sum := "cac3c5df0be855467743ebfcea830388b760a57369fb7a02a0ee5c47b1e2d677", func := "obelus/obeluslaw10.LeveltextUses", spec := "leveltextUses", inPlace := ["internal/abi.NoEscape", "internal/bytealg.MakeNoZero"], unfollowed := true, recurses := true, named := ["internal/strconv.uint64pow10", "math/bits.deBruijn32tab", "math/bits.deBruijn64tab", "unicode/utf8.first", "unicode/utf8.acceptRanges", "unicode.CaseRanges", "obelus/numeral.signs"], apart := false, laid := [("math/bits.deBruijn32tab", laid_math_bits_deBruijn32tab), ("math/bits.deBruijn64tab", laid_math_bits_deBruijn64tab), ("internal/strconv.uint64pow10", laid_internal_strconv_uint64pow10), ("unicode/utf8.acceptRanges", laid_unicode_utf8_acceptRanges), ("obelus/numeral.signs", laid_obelus_numeral_signs), ("unicode.CaseRanges", laid_unicode_CaseRanges), ("unicode/utf8.first", laid_unicode_utf8_first)], narrowed := true }
def LeveltextUsesUptoSaid : Prop := leveltextUsesUptoRow.holds Tryz.pinned (OpenSpec.upto leveltextUsesSpec)

end Rows
end Go.Proofs.YtaneeaojlkenmaaGreatDoor
