/-
  NARROWER THAN 'FOR EVERY INPUT', by the rows' own cells (each row's printed sentence says how): NumeralFormats: laid · NumeralParses: laid · NumeralInverse: laid · NumeralOrders: laid · NumeralCases: laid · NumeralOrdinals: laid · NumeralDetects: laid · NumeralNexts: laid · NumeralLongest: laid.
  DERIVED. THE GIVEN ROWS OF THIS SEAT. 9 by the template 'for every input the law returns true; each argument reads behind the call as it read before'; 0 by the template 'total and deterministic' (their statements: YtaehbjmimnjggaaDoorTotals.lean).
  GIVEN WITH THE SEED: the statements are not yours to turn. If you find one false, say at which input.
  Laid BY PROGRAM, IN A SANDBOX (cutbox-rows.mjs): the forced cells as the released guide's own fill.sh prints them over the translation 4bba7426cb9ce84e… (all of the seat's roots in one cut). By AI agents, Wed Nov 11 2026. No macro, syntax, notation, axiom, sorry.
-/
import Derived.Test.YtaehbjmimnjggaaDoorChecked
import GoSem.PinnedTables
import GoSem.Claim
import GoSem.ClaimJoined
import GoSem.ClaimMapViews
import Derived.JoinedTies
import Derived.KernelRfl
namespace Go.Proofs.YtaehbjmimnjggaaDoor
/- THE CELL 'sum', in the pinned program and in every row, IS THE sha256 OF THE DUMP (.gsa) THAT YtaehbjmimnjggaaDoorProg.lean LOADS. Nothing in Lean hashes anything: it is a label: what it is worth is what the hold of that sum in a sandbox is worth. -/
noncomputable def Tryd.pinned : Pinned := { name := "ytaehbjmimnjggaadoor", sum := "4bba7426cb9ce84e667dc0b6a9c42514626885194776de0468b3687a15034f13", checked := Tryd.checked }
namespace Rows
def none {H : Type} : Left H := { results := [], args := [] }

/- WHAT THE LISTED PACKAGE-LEVEL VARIABLES READ AS WHEN THE CALL BEGINS. Each datum BY PROGRAM (the guide's laid-datum.mjs) off the statement by which the dump's own 'gosem.cut.vars' lays the variable. In a bare row this is a premise. The card (YtaehbjmimnjggaaDoorCards.lean) ties it to the program's text. -/
def laid_math_bits_deBruijn32tab {H : Type} : DataW H := .agg [.lit (.int .u8 0), .lit (.int .u8 1), .lit (.int .u8 28), .lit (.int .u8 2), .lit (.int .u8 29), .lit (.int .u8 14), .lit (.int .u8 24), .lit (.int .u8 3), .lit (.int .u8 30), .lit (.int .u8 22), .lit (.int .u8 20), .lit (.int .u8 15), .lit (.int .u8 25), .lit (.int .u8 17), .lit (.int .u8 4), .lit (.int .u8 8), .lit (.int .u8 31), .lit (.int .u8 27), .lit (.int .u8 13), .lit (.int .u8 23), .lit (.int .u8 21), .lit (.int .u8 19), .lit (.int .u8 16), .lit (.int .u8 7), .lit (.int .u8 26), .lit (.int .u8 12), .lit (.int .u8 18), .lit (.int .u8 6), .lit (.int .u8 11), .lit (.int .u8 5), .lit (.int .u8 10), .lit (.int .u8 9)]
def laid_math_bits_deBruijn64tab {H : Type} : DataW H := .agg [.lit (.int .u8 0), .lit (.int .u8 1), .lit (.int .u8 56), .lit (.int .u8 2), .lit (.int .u8 57), .lit (.int .u8 49), .lit (.int .u8 28), .lit (.int .u8 3), .lit (.int .u8 61), .lit (.int .u8 58), .lit (.int .u8 42), .lit (.int .u8 50), .lit (.int .u8 38), .lit (.int .u8 29), .lit (.int .u8 17), .lit (.int .u8 4), .lit (.int .u8 62), .lit (.int .u8 47), .lit (.int .u8 59), .lit (.int .u8 36), .lit (.int .u8 45), .lit (.int .u8 43), .lit (.int .u8 51), .lit (.int .u8 22), .lit (.int .u8 53), .lit (.int .u8 39), .lit (.int .u8 33), .lit (.int .u8 30), .lit (.int .u8 24), .lit (.int .u8 18), .lit (.int .u8 12), .lit (.int .u8 5), .lit (.int .u8 63), .lit (.int .u8 55), .lit (.int .u8 48), .lit (.int .u8 27), .lit (.int .u8 60), .lit (.int .u8 41), .lit (.int .u8 37), .lit (.int .u8 16), .lit (.int .u8 46), .lit (.int .u8 35), .lit (.int .u8 44), .lit (.int .u8 21), .lit (.int .u8 52), .lit (.int .u8 32), .lit (.int .u8 23), .lit (.int .u8 11), .lit (.int .u8 54), .lit (.int .u8 26), .lit (.int .u8 40), .lit (.int .u8 15), .lit (.int .u8 34), .lit (.int .u8 20), .lit (.int .u8 31), .lit (.int .u8 10), .lit (.int .u8 25), .lit (.int .u8 14), .lit (.int .u8 19), .lit (.int .u8 9), .lit (.int .u8 13), .lit (.int .u8 8), .lit (.int .u8 7), .lit (.int .u8 6)]
def laid_internal_strconv_uint64pow10 {H : Type} : DataW H := .agg [.lit (.int .u64 1), .lit (.int .u64 10), .lit (.int .u64 100), .lit (.int .u64 1000), .lit (.int .u64 10000), .lit (.int .u64 100000), .lit (.int .u64 1000000), .lit (.int .u64 10000000), .lit (.int .u64 100000000), .lit (.int .u64 1000000000), .lit (.int .u64 10000000000), .lit (.int .u64 100000000000), .lit (.int .u64 1000000000000), .lit (.int .u64 10000000000000), .lit (.int .u64 100000000000000), .lit (.int .u64 1000000000000000), .lit (.int .u64 10000000000000000), .lit (.int .u64 100000000000000000), .lit (.int .u64 1000000000000000000), .lit (.int .u64 10000000000000000000)]
def laid_unicode_utf8_acceptRanges {H : Type} : DataW H := .agg [.agg [.lit (.int .u8 128), .lit (.int .u8 191)], .agg [.lit (.int .u8 160), .lit (.int .u8 191)], .agg [.lit (.int .u8 128), .lit (.int .u8 159)], .agg [.lit (.int .u8 144), .lit (.int .u8 191)], .agg [.lit (.int .u8 128), .lit (.int .u8 143)], .agg [.lit (.int .u8 0), .lit (.int .u8 0)], .agg [.lit (.int .u8 0), .lit (.int .u8 0)], .agg [.lit (.int .u8 0), .lit (.int .u8 0)], .agg [.lit (.int .u8 0), .lit (.int .u8 0)], .agg [.lit (.int .u8 0), .lit (.int .u8 0)], .agg [.lit (.int .u8 0), .lit (.int .u8 0)], .agg [.lit (.int .u8 0), .lit (.int .u8 0)], .agg [.lit (.int .u8 0), .lit (.int .u8 0)], .agg [.lit (.int .u8 0), .lit (.int .u8 0)], .agg [.lit (.int .u8 0), .lit (.int .u8 0)], .agg [.lit (.int .u8 0), .lit (.int .u8 0)]]
def laid_obelus_numeral_signs {H : Type} : DataW H := .agg [.agg [.lit (.int .i64 1000), .lit (.string [109])], .agg [.lit (.int .i64 900), .lit (.string [99, 109])], .agg [.lit (.int .i64 500), .lit (.string [100])], .agg [.lit (.int .i64 400), .lit (.string [99, 100])], .agg [.lit (.int .i64 100), .lit (.string [99])], .agg [.lit (.int .i64 90), .lit (.string [120, 99])], .agg [.lit (.int .i64 50), .lit (.string [108])], .agg [.lit (.int .i64 40), .lit (.string [120, 108])], .agg [.lit (.int .i64 10), .lit (.string [120])], .agg [.lit (.int .i64 9), .lit (.string [105, 120])], .agg [.lit (.int .i64 5), .lit (.string [118])], .agg [.lit (.int .i64 4), .lit (.string [105, 118])], .agg [.lit (.int .i64 1), .lit (.string [105])]]
/-- One of Go's own tables, pinned by name: the form's constant. -/
def laid_unicode_CaseRanges : DataW Unit := Go.Pinned.caseRanges
/-- One of Go's own tables, pinned by name: the form's constant. -/
def laid_unicode_utf8_first : DataW Unit := Go.Pinned.utf8First

/-- 'obeluslaw09.NumeralFormats': WHATEVER THE INPUT: true; the input reads as it did. -/
def numeralFormatsSpec : ChangeSpec := { name := "numeralFormats", fn := fun _ => fun
  | [d1, d2] => { results := [.lit (.bool true)], args := [d1, d2] }
  | _ => none }
def numeralFormatsRow : OpenClaim := { program := "ytaehbjmimnjggaadoor", sum := "4bba7426cb9ce84e667dc0b6a9c42514626885194776de0468b3687a15034f13", func := "obelus/obeluslaw09.NumeralFormats", spec := "numeralFormats", inPlace := ["internal/abi.NoEscape", "internal/bytealg.MakeNoZero"], unfollowed := true, recurses := true, named := ["internal/strconv.uint64pow10", "math/bits.deBruijn32tab", "math/bits.deBruijn64tab", "unicode/utf8.first", "unicode/utf8.acceptRanges", "unicode.CaseRanges", "obelus/numeral.signs"], apart := false, laid := [("math/bits.deBruijn32tab", laid_math_bits_deBruijn32tab), ("math/bits.deBruijn64tab", laid_math_bits_deBruijn64tab), ("internal/strconv.uint64pow10", laid_internal_strconv_uint64pow10), ("unicode/utf8.acceptRanges", laid_unicode_utf8_acceptRanges), ("obelus/numeral.signs", laid_obelus_numeral_signs), ("unicode.CaseRanges", laid_unicode_CaseRanges), ("unicode/utf8.first", laid_unicode_utf8_first)] }
def NumeralFormatsSaid : Prop := numeralFormatsRow.holds Tryd.pinned (OpenSpec.ofChange numeralFormatsSpec)

/-- ITS FALSE NEIGHBOUR: 'it returns false'. Refute it at one input. -/
def numeralFormatsWrong : ChangeSpec := { name := "numeralFormats", fn := fun _ => fun
  | [d1, d2] => { results := [.lit (.bool false)], args := [d1, d2] }
  | _ => none }
def NumeralFormatsWrongFalsely : Prop := numeralFormatsRow.holds Tryd.pinned (OpenSpec.ofChange numeralFormatsWrong)

/-- 'obeluslaw09.NumeralParses': WHATEVER THE INPUT: true; the input reads as it did. -/
def numeralParsesSpec : ChangeSpec := { name := "numeralParses", fn := fun _ => fun
  | [d1, d2] => { results := [.lit (.bool true)], args := [d1, d2] }
  | _ => none }
def numeralParsesRow : OpenClaim := { program := "ytaehbjmimnjggaadoor", sum := "4bba7426cb9ce84e667dc0b6a9c42514626885194776de0468b3687a15034f13", func := "obelus/obeluslaw09.NumeralParses", spec := "numeralParses", inPlace := ["internal/abi.NoEscape", "internal/bytealg.MakeNoZero"], unfollowed := true, recurses := true, named := ["obelus/numeral.signs", "unicode/utf8.first", "unicode/utf8.acceptRanges", "unicode.CaseRanges", "internal/strconv.uint64pow10", "math/bits.deBruijn32tab", "math/bits.deBruijn64tab"], apart := false, laid := [("math/bits.deBruijn32tab", laid_math_bits_deBruijn32tab), ("math/bits.deBruijn64tab", laid_math_bits_deBruijn64tab), ("internal/strconv.uint64pow10", laid_internal_strconv_uint64pow10), ("unicode/utf8.acceptRanges", laid_unicode_utf8_acceptRanges), ("obelus/numeral.signs", laid_obelus_numeral_signs), ("unicode.CaseRanges", laid_unicode_CaseRanges), ("unicode/utf8.first", laid_unicode_utf8_first)] }
def NumeralParsesSaid : Prop := numeralParsesRow.holds Tryd.pinned (OpenSpec.ofChange numeralParsesSpec)

/-- ITS FALSE NEIGHBOUR: 'it returns false'. Refute it at one input. -/
def numeralParsesWrong : ChangeSpec := { name := "numeralParses", fn := fun _ => fun
  | [d1, d2] => { results := [.lit (.bool false)], args := [d1, d2] }
  | _ => none }
def NumeralParsesWrongFalsely : Prop := numeralParsesRow.holds Tryd.pinned (OpenSpec.ofChange numeralParsesWrong)

/-- 'obeluslaw09.NumeralInverse': WHATEVER THE INPUT: true; the input reads as it did. -/
def numeralInverseSpec : ChangeSpec := { name := "numeralInverse", fn := fun _ => fun
  | [d1, d2] => { results := [.lit (.bool true)], args := [d1, d2] }
  | _ => none }
def numeralInverseRow : OpenClaim := { program := "ytaehbjmimnjggaadoor", sum := "4bba7426cb9ce84e667dc0b6a9c42514626885194776de0468b3687a15034f13", func := "obelus/obeluslaw09.NumeralInverse", spec := "numeralInverse", inPlace := ["internal/abi.NoEscape", "internal/bytealg.MakeNoZero"], unfollowed := true, recurses := true, named := ["internal/strconv.uint64pow10", "math/bits.deBruijn32tab", "math/bits.deBruijn64tab", "unicode/utf8.first", "unicode/utf8.acceptRanges", "unicode.CaseRanges", "obelus/numeral.signs"], apart := false, laid := [("math/bits.deBruijn32tab", laid_math_bits_deBruijn32tab), ("math/bits.deBruijn64tab", laid_math_bits_deBruijn64tab), ("internal/strconv.uint64pow10", laid_internal_strconv_uint64pow10), ("unicode/utf8.acceptRanges", laid_unicode_utf8_acceptRanges), ("obelus/numeral.signs", laid_obelus_numeral_signs), ("unicode.CaseRanges", laid_unicode_CaseRanges), ("unicode/utf8.first", laid_unicode_utf8_first)] }
def NumeralInverseSaid : Prop := numeralInverseRow.holds Tryd.pinned (OpenSpec.ofChange numeralInverseSpec)

/-- ITS FALSE NEIGHBOUR: 'it returns false'. Refute it at one input. -/
def numeralInverseWrong : ChangeSpec := { name := "numeralInverse", fn := fun _ => fun
  | [d1, d2] => { results := [.lit (.bool false)], args := [d1, d2] }
  | _ => none }
def NumeralInverseWrongFalsely : Prop := numeralInverseRow.holds Tryd.pinned (OpenSpec.ofChange numeralInverseWrong)

/-- 'obeluslaw09.NumeralOrders': WHATEVER THE INPUT: true; the input reads as it did. -/
def numeralOrdersSpec : ChangeSpec := { name := "numeralOrders", fn := fun _ => fun
  | [d1, d2] => { results := [.lit (.bool true)], args := [d1, d2] }
  | _ => none }
def numeralOrdersRow : OpenClaim := { program := "ytaehbjmimnjggaadoor", sum := "4bba7426cb9ce84e667dc0b6a9c42514626885194776de0468b3687a15034f13", func := "obelus/obeluslaw09.NumeralOrders", spec := "numeralOrders", inPlace := ["internal/abi.NoEscape", "internal/bytealg.MakeNoZero"], unfollowed := true, recurses := true, named := ["internal/strconv.uint64pow10", "math/bits.deBruijn32tab", "math/bits.deBruijn64tab", "unicode/utf8.first", "unicode/utf8.acceptRanges", "unicode.CaseRanges", "obelus/numeral.signs"], apart := false, laid := [("math/bits.deBruijn32tab", laid_math_bits_deBruijn32tab), ("math/bits.deBruijn64tab", laid_math_bits_deBruijn64tab), ("internal/strconv.uint64pow10", laid_internal_strconv_uint64pow10), ("unicode/utf8.acceptRanges", laid_unicode_utf8_acceptRanges), ("obelus/numeral.signs", laid_obelus_numeral_signs), ("unicode.CaseRanges", laid_unicode_CaseRanges), ("unicode/utf8.first", laid_unicode_utf8_first)] }
def NumeralOrdersSaid : Prop := numeralOrdersRow.holds Tryd.pinned (OpenSpec.ofChange numeralOrdersSpec)

/-- ITS FALSE NEIGHBOUR: 'it returns false'. Refute it at one input. -/
def numeralOrdersWrong : ChangeSpec := { name := "numeralOrders", fn := fun _ => fun
  | [d1, d2] => { results := [.lit (.bool false)], args := [d1, d2] }
  | _ => none }
def NumeralOrdersWrongFalsely : Prop := numeralOrdersRow.holds Tryd.pinned (OpenSpec.ofChange numeralOrdersWrong)

/-- 'obeluslaw09.NumeralCases': WHATEVER THE INPUT: true; the input reads as it did. -/
def numeralCasesSpec : ChangeSpec := { name := "numeralCases", fn := fun _ => fun
  | [d] => { results := [.lit (.bool true)], args := [d] }
  | _ => none }
def numeralCasesRow : OpenClaim := { program := "ytaehbjmimnjggaadoor", sum := "4bba7426cb9ce84e667dc0b6a9c42514626885194776de0468b3687a15034f13", func := "obelus/obeluslaw09.NumeralCases", spec := "numeralCases", inPlace := ["internal/abi.NoEscape", "internal/bytealg.MakeNoZero"], unfollowed := true, recurses := true, named := ["internal/strconv.uint64pow10", "math/bits.deBruijn32tab", "math/bits.deBruijn64tab", "unicode/utf8.first", "unicode/utf8.acceptRanges", "unicode.CaseRanges", "obelus/numeral.signs"], apart := false, laid := [("math/bits.deBruijn32tab", laid_math_bits_deBruijn32tab), ("math/bits.deBruijn64tab", laid_math_bits_deBruijn64tab), ("internal/strconv.uint64pow10", laid_internal_strconv_uint64pow10), ("unicode/utf8.acceptRanges", laid_unicode_utf8_acceptRanges), ("obelus/numeral.signs", laid_obelus_numeral_signs), ("unicode.CaseRanges", laid_unicode_CaseRanges), ("unicode/utf8.first", laid_unicode_utf8_first)] }
def NumeralCasesSaid : Prop := numeralCasesRow.holds Tryd.pinned (OpenSpec.ofChange numeralCasesSpec)

/-- ITS FALSE NEIGHBOUR: 'it returns false'. Refute it at one input. -/
def numeralCasesWrong : ChangeSpec := { name := "numeralCases", fn := fun _ => fun
  | [d] => { results := [.lit (.bool false)], args := [d] }
  | _ => none }
def NumeralCasesWrongFalsely : Prop := numeralCasesRow.holds Tryd.pinned (OpenSpec.ofChange numeralCasesWrong)

/-- 'obeluslaw09.NumeralOrdinals': WHATEVER THE INPUT: true; the input reads as it did. -/
def numeralOrdinalsSpec : ChangeSpec := { name := "numeralOrdinals", fn := fun _ => fun
  | [d] => { results := [.lit (.bool true)], args := [d] }
  | _ => none }
def numeralOrdinalsRow : OpenClaim := { program := "ytaehbjmimnjggaadoor", sum := "4bba7426cb9ce84e667dc0b6a9c42514626885194776de0468b3687a15034f13", func := "obelus/obeluslaw09.NumeralOrdinals", spec := "numeralOrdinals", inPlace := ["internal/abi.NoEscape", "internal/bytealg.MakeNoZero"], unfollowed := true, recurses := true, named := ["internal/strconv.uint64pow10", "math/bits.deBruijn32tab", "math/bits.deBruijn64tab", "unicode/utf8.first", "unicode/utf8.acceptRanges", "unicode.CaseRanges", "obelus/numeral.signs"], apart := false, laid := [("math/bits.deBruijn32tab", laid_math_bits_deBruijn32tab), ("math/bits.deBruijn64tab", laid_math_bits_deBruijn64tab), ("internal/strconv.uint64pow10", laid_internal_strconv_uint64pow10), ("unicode/utf8.acceptRanges", laid_unicode_utf8_acceptRanges), ("obelus/numeral.signs", laid_obelus_numeral_signs), ("unicode.CaseRanges", laid_unicode_CaseRanges), ("unicode/utf8.first", laid_unicode_utf8_first)] }
def NumeralOrdinalsSaid : Prop := numeralOrdinalsRow.holds Tryd.pinned (OpenSpec.ofChange numeralOrdinalsSpec)

/-- ITS FALSE NEIGHBOUR: 'it returns false'. Refute it at one input. -/
def numeralOrdinalsWrong : ChangeSpec := { name := "numeralOrdinals", fn := fun _ => fun
  | [d] => { results := [.lit (.bool false)], args := [d] }
  | _ => none }
def NumeralOrdinalsWrongFalsely : Prop := numeralOrdinalsRow.holds Tryd.pinned (OpenSpec.ofChange numeralOrdinalsWrong)

/-- 'obeluslaw09.NumeralDetects': WHATEVER THE INPUT: true; the input reads as it did. -/
def numeralDetectsSpec : ChangeSpec := { name := "numeralDetects", fn := fun _ => fun
  | [d] => { results := [.lit (.bool true)], args := [d] }
  | _ => none }
def numeralDetectsRow : OpenClaim := { program := "ytaehbjmimnjggaadoor", sum := "4bba7426cb9ce84e667dc0b6a9c42514626885194776de0468b3687a15034f13", func := "obelus/obeluslaw09.NumeralDetects", spec := "numeralDetects", inPlace := ["internal/abi.NoEscape", "internal/bytealg.MakeNoZero"], unfollowed := true, recurses := true, named := ["obelus/numeral.signs", "unicode/utf8.first", "unicode/utf8.acceptRanges", "unicode.CaseRanges", "internal/strconv.uint64pow10", "math/bits.deBruijn32tab", "math/bits.deBruijn64tab"], apart := false, laid := [("math/bits.deBruijn32tab", laid_math_bits_deBruijn32tab), ("math/bits.deBruijn64tab", laid_math_bits_deBruijn64tab), ("internal/strconv.uint64pow10", laid_internal_strconv_uint64pow10), ("unicode/utf8.acceptRanges", laid_unicode_utf8_acceptRanges), ("obelus/numeral.signs", laid_obelus_numeral_signs), ("unicode.CaseRanges", laid_unicode_CaseRanges), ("unicode/utf8.first", laid_unicode_utf8_first)] }
def NumeralDetectsSaid : Prop := numeralDetectsRow.holds Tryd.pinned (OpenSpec.ofChange numeralDetectsSpec)

/-- ITS FALSE NEIGHBOUR: 'it returns false'. Refute it at one input. -/
def numeralDetectsWrong : ChangeSpec := { name := "numeralDetects", fn := fun _ => fun
  | [d] => { results := [.lit (.bool false)], args := [d] }
  | _ => none }
def NumeralDetectsWrongFalsely : Prop := numeralDetectsRow.holds Tryd.pinned (OpenSpec.ofChange numeralDetectsWrong)

/-- 'obeluslaw09.NumeralNexts': WHATEVER THE INPUT: true; the input reads as it did. -/
def numeralNextsSpec : ChangeSpec := { name := "numeralNexts", fn := fun _ => fun
  | [d1, d2, d3] => { results := [.lit (.bool true)], args := [d1, d2, d3] }
  | _ => none }
def numeralNextsRow : OpenClaim := { program := "ytaehbjmimnjggaadoor", sum := "4bba7426cb9ce84e667dc0b6a9c42514626885194776de0468b3687a15034f13", func := "obelus/obeluslaw09.NumeralNexts", spec := "numeralNexts", inPlace := ["internal/abi.NoEscape", "internal/bytealg.MakeNoZero"], unfollowed := true, recurses := true, named := ["obelus/numeral.signs", "unicode/utf8.first", "unicode/utf8.acceptRanges", "unicode.CaseRanges", "internal/strconv.uint64pow10", "math/bits.deBruijn32tab", "math/bits.deBruijn64tab"], apart := false, laid := [("math/bits.deBruijn32tab", laid_math_bits_deBruijn32tab), ("math/bits.deBruijn64tab", laid_math_bits_deBruijn64tab), ("internal/strconv.uint64pow10", laid_internal_strconv_uint64pow10), ("unicode/utf8.acceptRanges", laid_unicode_utf8_acceptRanges), ("obelus/numeral.signs", laid_obelus_numeral_signs), ("unicode.CaseRanges", laid_unicode_CaseRanges), ("unicode/utf8.first", laid_unicode_utf8_first)] }
def NumeralNextsSaid : Prop := numeralNextsRow.holds Tryd.pinned (OpenSpec.ofChange numeralNextsSpec)

/-- ITS FALSE NEIGHBOUR: 'it returns false'. Refute it at one input. -/
def numeralNextsWrong : ChangeSpec := { name := "numeralNexts", fn := fun _ => fun
  | [d1, d2, d3] => { results := [.lit (.bool false)], args := [d1, d2, d3] }
  | _ => none }
def NumeralNextsWrongFalsely : Prop := numeralNextsRow.holds Tryd.pinned (OpenSpec.ofChange numeralNextsWrong)

/-- 'obeluslaw09.NumeralLongest': WHATEVER THE INPUT: true; the input reads as it did. -/
def numeralLongestSpec : ChangeSpec := { name := "numeralLongest", fn := fun _ => fun
  | [d1, d2] => { results := [.lit (.bool true)], args := [d1, d2] }
  | _ => none }
def numeralLongestRow : OpenClaim := { program := "ytaehbjmimnjggaadoor", sum := "4bba7426cb9ce84e667dc0b6a9c42514626885194776de0468b3687a15034f13", func := "obelus/obeluslaw09.NumeralLongest", spec := "numeralLongest", inPlace := ["internal/abi.NoEscape", "internal/bytealg.MakeNoZero"], unfollowed := true, recurses := true, named := ["internal/strconv.uint64pow10", "math/bits.deBruijn32tab", "math/bits.deBruijn64tab", "unicode/utf8.first", "unicode/utf8.acceptRanges", "unicode.CaseRanges", "obelus/numeral.signs"], apart := false, laid := [("math/bits.deBruijn32tab", laid_math_bits_deBruijn32tab), ("math/bits.deBruijn64tab", laid_math_bits_deBruijn64tab), ("internal/strconv.uint64pow10", laid_internal_strconv_uint64pow10), ("unicode/utf8.acceptRanges", laid_unicode_utf8_acceptRanges), ("obelus/numeral.signs", laid_obelus_numeral_signs), ("unicode.CaseRanges", laid_unicode_CaseRanges), ("unicode/utf8.first", laid_unicode_utf8_first)] }
def NumeralLongestSaid : Prop := numeralLongestRow.holds Tryd.pinned (OpenSpec.ofChange numeralLongestSpec)

/-- ITS FALSE NEIGHBOUR: 'it returns false'. Refute it at one input. -/
def numeralLongestWrong : ChangeSpec := { name := "numeralLongest", fn := fun _ => fun
  | [d1, d2] => { results := [.lit (.bool false)], args := [d1, d2] }
  | _ => none }
def NumeralLongestWrongFalsely : Prop := numeralLongestRow.holds Tryd.pinned (OpenSpec.ofChange numeralLongestWrong)

/- THE SECOND FORM. 'bulk': how many values and letters a reading holds, each counted each time it is reached (what is shared counts as often as it is met; a slice's spare places count too). A statement '..UptoSaid' is the law's where the arguments, and the package variables that the reading takes, are together of bulk at most 1048576: NARROWER than '..Said'. Prove '..Said' where nothing that the law and all that it calls make is longer than what came in: it says more and counts as full. Else prove '..UptoSaid'. A law counts once. -/
mutual
def uptoBulk {H : Type} : DataW H → Nat
  | .lit (.string bytes) => bytes.length + 1
  | .lit _ => 1
  | .nil => 1
  | .ptr d => uptoBulk d + 1
  | .slice elems spare => uptoBulkAll elems + uptoBulkAll spare + 1
  | .agg parts => uptoBulkAll parts + 1
  | .iface _ d => uptoBulk d + 1
  | .map entries => uptoBulkEntries entries + 1
  | .held _ => 1
def uptoBulkAll {H : Type} : List (DataW H) → Nat
  | [] => 0
  | d :: r => uptoBulk d + uptoBulkAll r
def uptoBulkEntries {H : Type} : List (Lit × DataW H) → Nat
  | [] => 0
  | x :: r => uptoBulkEntry x + uptoBulkEntries r
def uptoBulkEntry {H : Type} : Lit × DataW H → Nat
  | (.string bytes, d) => bytes.length + uptoBulk d + 1
  | (_, d) => uptoBulk d + 1
 end
def uptoSmall : (H : Type) → List (DataW H) → Bool := fun _ ds => decide (uptoBulkAll ds ≤ 1048576)
def OpenSpec.upto (s : _root_.Go.ChangeSpec) : _root_.Go.OpenSpec := { _root_.Go.OpenSpec.ofChange s with cond := some uptoSmall }

/-- 'obeluslaw09.NumeralFormats', WHERE WHAT IT READS IS OF BULK AT MOST 1048576: true; the input reads as it did. -/
def numeralFormatsUptoRow : OpenClaim := { program := "ytaehbjmimnjggaadoor", sum := "4bba7426cb9ce84e667dc0b6a9c42514626885194776de0468b3687a15034f13", func := "obelus/obeluslaw09.NumeralFormats", spec := "numeralFormats", inPlace := ["internal/abi.NoEscape", "internal/bytealg.MakeNoZero"], unfollowed := true, recurses := true, named := ["internal/strconv.uint64pow10", "math/bits.deBruijn32tab", "math/bits.deBruijn64tab", "unicode/utf8.first", "unicode/utf8.acceptRanges", "unicode.CaseRanges", "obelus/numeral.signs"], apart := false, laid := [("math/bits.deBruijn32tab", laid_math_bits_deBruijn32tab), ("math/bits.deBruijn64tab", laid_math_bits_deBruijn64tab), ("internal/strconv.uint64pow10", laid_internal_strconv_uint64pow10), ("unicode/utf8.acceptRanges", laid_unicode_utf8_acceptRanges), ("obelus/numeral.signs", laid_obelus_numeral_signs), ("unicode.CaseRanges", laid_unicode_CaseRanges), ("unicode/utf8.first", laid_unicode_utf8_first)], narrowed := true }
def NumeralFormatsUptoSaid : Prop := numeralFormatsUptoRow.holds Tryd.pinned (OpenSpec.upto numeralFormatsSpec)

/-- 'obeluslaw09.NumeralParses', WHERE WHAT IT READS IS OF BULK AT MOST 1048576: true; the input reads as it did. -/
def numeralParsesUptoRow : OpenClaim := { program := "ytaehbjmimnjggaadoor", sum := "4bba7426cb9ce84e667dc0b6a9c42514626885194776de0468b3687a15034f13", func := "obelus/obeluslaw09.NumeralParses", spec := "numeralParses", inPlace := ["internal/abi.NoEscape", "internal/bytealg.MakeNoZero"], unfollowed := true, recurses := true, named := ["obelus/numeral.signs", "unicode/utf8.first", "unicode/utf8.acceptRanges", "unicode.CaseRanges", "internal/strconv.uint64pow10", "math/bits.deBruijn32tab", "math/bits.deBruijn64tab"], apart := false, laid := [("math/bits.deBruijn32tab", laid_math_bits_deBruijn32tab), ("math/bits.deBruijn64tab", laid_math_bits_deBruijn64tab), ("internal/strconv.uint64pow10", laid_internal_strconv_uint64pow10), ("unicode/utf8.acceptRanges", laid_unicode_utf8_acceptRanges), ("obelus/numeral.signs", laid_obelus_numeral_signs), ("unicode.CaseRanges", laid_unicode_CaseRanges), ("unicode/utf8.first", laid_unicode_utf8_first)], narrowed := true }
def NumeralParsesUptoSaid : Prop := numeralParsesUptoRow.holds Tryd.pinned (OpenSpec.upto numeralParsesSpec)

/-- 'obeluslaw09.NumeralInverse', WHERE WHAT IT READS IS OF BULK AT MOST 1048576: true; the input reads as it did. -/
def numeralInverseUptoRow : OpenClaim := { program := "ytaehbjmimnjggaadoor", sum := "4bba7426cb9ce84e667dc0b6a9c42514626885194776de0468b3687a15034f13", func := "obelus/obeluslaw09.NumeralInverse", spec := "numeralInverse", inPlace := ["internal/abi.NoEscape", "internal/bytealg.MakeNoZero"], unfollowed := true, recurses := true, named := ["internal/strconv.uint64pow10", "math/bits.deBruijn32tab", "math/bits.deBruijn64tab", "unicode/utf8.first", "unicode/utf8.acceptRanges", "unicode.CaseRanges", "obelus/numeral.signs"], apart := false, laid := [("math/bits.deBruijn32tab", laid_math_bits_deBruijn32tab), ("math/bits.deBruijn64tab", laid_math_bits_deBruijn64tab), ("internal/strconv.uint64pow10", laid_internal_strconv_uint64pow10), ("unicode/utf8.acceptRanges", laid_unicode_utf8_acceptRanges), ("obelus/numeral.signs", laid_obelus_numeral_signs), ("unicode.CaseRanges", laid_unicode_CaseRanges), ("unicode/utf8.first", laid_unicode_utf8_first)], narrowed := true }
def NumeralInverseUptoSaid : Prop := numeralInverseUptoRow.holds Tryd.pinned (OpenSpec.upto numeralInverseSpec)

/-- 'obeluslaw09.NumeralOrders', WHERE WHAT IT READS IS OF BULK AT MOST 1048576: true; the input reads as it did. -/
def numeralOrdersUptoRow : OpenClaim := { program := "ytaehbjmimnjggaadoor", sum := "4bba7426cb9ce84e667dc0b6a9c42514626885194776de0468b3687a15034f13", func := "obelus/obeluslaw09.NumeralOrders", spec := "numeralOrders", inPlace := ["internal/abi.NoEscape", "internal/bytealg.MakeNoZero"], unfollowed := true, recurses := true, named := ["internal/strconv.uint64pow10", "math/bits.deBruijn32tab", "math/bits.deBruijn64tab", "unicode/utf8.first", "unicode/utf8.acceptRanges", "unicode.CaseRanges", "obelus/numeral.signs"], apart := false, laid := [("math/bits.deBruijn32tab", laid_math_bits_deBruijn32tab), ("math/bits.deBruijn64tab", laid_math_bits_deBruijn64tab), ("internal/strconv.uint64pow10", laid_internal_strconv_uint64pow10), ("unicode/utf8.acceptRanges", laid_unicode_utf8_acceptRanges), ("obelus/numeral.signs", laid_obelus_numeral_signs), ("unicode.CaseRanges", laid_unicode_CaseRanges), ("unicode/utf8.first", laid_unicode_utf8_first)], narrowed := true }
def NumeralOrdersUptoSaid : Prop := numeralOrdersUptoRow.holds Tryd.pinned (OpenSpec.upto numeralOrdersSpec)

/-- 'obeluslaw09.NumeralCases', WHERE WHAT IT READS IS OF BULK AT MOST 1048576: true; the input reads as it did. -/
def numeralCasesUptoRow : OpenClaim := { program := "ytaehbjmimnjggaadoor", sum := "4bba7426cb9ce84e667dc0b6a9c42514626885194776de0468b3687a15034f13", func := "obelus/obeluslaw09.NumeralCases", spec := "numeralCases", inPlace := ["internal/abi.NoEscape", "internal/bytealg.MakeNoZero"], unfollowed := true, recurses := true, named := ["internal/strconv.uint64pow10", "math/bits.deBruijn32tab", "math/bits.deBruijn64tab", "unicode/utf8.first", "unicode/utf8.acceptRanges", "unicode.CaseRanges", "obelus/numeral.signs"], apart := false, laid := [("math/bits.deBruijn32tab", laid_math_bits_deBruijn32tab), ("math/bits.deBruijn64tab", laid_math_bits_deBruijn64tab), ("internal/strconv.uint64pow10", laid_internal_strconv_uint64pow10), ("unicode/utf8.acceptRanges", laid_unicode_utf8_acceptRanges), ("obelus/numeral.signs", laid_obelus_numeral_signs), ("unicode.CaseRanges", laid_unicode_CaseRanges), ("unicode/utf8.first", laid_unicode_utf8_first)], narrowed := true }
def NumeralCasesUptoSaid : Prop := numeralCasesUptoRow.holds Tryd.pinned (OpenSpec.upto numeralCasesSpec)

/-- 'obeluslaw09.NumeralOrdinals', WHERE WHAT IT READS IS OF BULK AT MOST 1048576: true; the input reads as it did. -/
def numeralOrdinalsUptoRow : OpenClaim := { program := "ytaehbjmimnjggaadoor", sum := "4bba7426cb9ce84e667dc0b6a9c42514626885194776de0468b3687a15034f13", func := "obelus/obeluslaw09.NumeralOrdinals", spec := "numeralOrdinals", inPlace := ["internal/abi.NoEscape", "internal/bytealg.MakeNoZero"], unfollowed := true, recurses := true, named := ["internal/strconv.uint64pow10", "math/bits.deBruijn32tab", "math/bits.deBruijn64tab", "unicode/utf8.first", "unicode/utf8.acceptRanges", "unicode.CaseRanges", "obelus/numeral.signs"], apart := false, laid := [("math/bits.deBruijn32tab", laid_math_bits_deBruijn32tab), ("math/bits.deBruijn64tab", laid_math_bits_deBruijn64tab), ("internal/strconv.uint64pow10", laid_internal_strconv_uint64pow10), ("unicode/utf8.acceptRanges", laid_unicode_utf8_acceptRanges), ("obelus/numeral.signs", laid_obelus_numeral_signs), ("unicode.CaseRanges", laid_unicode_CaseRanges), ("unicode/utf8.first", laid_unicode_utf8_first)], narrowed := true }
def NumeralOrdinalsUptoSaid : Prop := numeralOrdinalsUptoRow.holds Tryd.pinned (OpenSpec.upto numeralOrdinalsSpec)

/-- 'obeluslaw09.NumeralDetects', WHERE WHAT IT READS IS OF BULK AT MOST 1048576: true; the input reads as it did. -/
def numeralDetectsUptoRow : OpenClaim := { program := "ytaehbjmimnjggaadoor", sum := "4bba7426cb9ce84e667dc0b6a9c42514626885194776de0468b3687a15034f13", func := "obelus/obeluslaw09.NumeralDetects", spec := "numeralDetects", inPlace := ["internal/abi.NoEscape", "internal/bytealg.MakeNoZero"], unfollowed := true, recurses := true, named := ["obelus/numeral.signs", "unicode/utf8.first", "unicode/utf8.acceptRanges", "unicode.CaseRanges", "internal/strconv.uint64pow10", "math/bits.deBruijn32tab", "math/bits.deBruijn64tab"], apart := false, laid := [("math/bits.deBruijn32tab", laid_math_bits_deBruijn32tab), ("math/bits.deBruijn64tab", laid_math_bits_deBruijn64tab), ("internal/strconv.uint64pow10", laid_internal_strconv_uint64pow10), ("unicode/utf8.acceptRanges", laid_unicode_utf8_acceptRanges), ("obelus/numeral.signs", laid_obelus_numeral_signs), ("unicode.CaseRanges", laid_unicode_CaseRanges), ("unicode/utf8.first", laid_unicode_utf8_first)], narrowed := true }
def NumeralDetectsUptoSaid : Prop := numeralDetectsUptoRow.holds Tryd.pinned (OpenSpec.upto numeralDetectsSpec)

/-- 'obeluslaw09.NumeralNexts', WHERE WHAT IT READS IS OF BULK AT MOST 1048576: true; the input reads as it did. -/
def numeralNextsUptoRow : OpenClaim := { program := "ytaehbjmimnjggaadoor", sum := "4bba7426cb9ce84e667dc0b6a9c42514626885194776de0468b3687a15034f13", func := "obelus/obeluslaw09.NumeralNexts", spec := "numeralNexts", inPlace := ["internal/abi.NoEscape", "internal/bytealg.MakeNoZero"], unfollowed := true, recurses := true, named := ["obelus/numeral.signs", "unicode/utf8.first", "unicode/utf8.acceptRanges", "unicode.CaseRanges", "internal/strconv.uint64pow10", "math/bits.deBruijn32tab", "math/bits.deBruijn64tab"], apart := false, laid := [("math/bits.deBruijn32tab", laid_math_bits_deBruijn32tab), ("math/bits.deBruijn64tab", laid_math_bits_deBruijn64tab), ("internal/strconv.uint64pow10", laid_internal_strconv_uint64pow10), ("unicode/utf8.acceptRanges", laid_unicode_utf8_acceptRanges), ("obelus/numeral.signs", laid_obelus_numeral_signs), ("unicode.CaseRanges", laid_unicode_CaseRanges), ("unicode/utf8.first", laid_unicode_utf8_first)], narrowed := true }
def NumeralNextsUptoSaid : Prop := numeralNextsUptoRow.holds Tryd.pinned (OpenSpec.upto numeralNextsSpec)

/-- 'obeluslaw09.NumeralLongest', WHERE WHAT IT READS IS OF BULK AT MOST 1048576: true; the input reads as it did. -/
def numeralLongestUptoRow : OpenClaim := { program := "ytaehbjmimnjggaadoor", sum := "4bba7426cb9ce84e667dc0b6a9c42514626885194776de0468b3687a15034f13", func := "obelus/obeluslaw09.NumeralLongest", spec := "numeralLongest", inPlace := ["internal/abi.NoEscape", "internal/bytealg.MakeNoZero"], unfollowed := true, recurses := true, named := ["internal/strconv.uint64pow10", "math/bits.deBruijn32tab", "math/bits.deBruijn64tab", "unicode/utf8.first", "unicode/utf8.acceptRanges", "unicode.CaseRanges", "obelus/numeral.signs"], apart := false, laid := [("math/bits.deBruijn32tab", laid_math_bits_deBruijn32tab), ("math/bits.deBruijn64tab", laid_math_bits_deBruijn64tab), ("internal/strconv.uint64pow10", laid_internal_strconv_uint64pow10), ("unicode/utf8.acceptRanges", laid_unicode_utf8_acceptRanges), ("obelus/numeral.signs", laid_obelus_numeral_signs), ("unicode.CaseRanges", laid_unicode_CaseRanges), ("unicode/utf8.first", laid_unicode_utf8_first)], narrowed := true }
def NumeralLongestUptoSaid : Prop := numeralLongestUptoRow.holds Tryd.pinned (OpenSpec.upto numeralLongestSpec)

end Rows
end Go.Proofs.YtaehbjmimnjggaaDoor
