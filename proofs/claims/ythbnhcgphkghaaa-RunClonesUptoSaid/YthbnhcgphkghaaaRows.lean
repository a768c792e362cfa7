/-
  NARROWER THAN 'FOR EVERY INPUT', by the rows' own cells (each row's printed sentence says how): RunLengths: loops · RunTexts: loops · RunEquals: loops · RunNormals: loops · RunSlices: loops · RunNests: loops · RunParts: loops · RunClones: loops · RunSplits: loops · RunConcats: loops · RunReplaces: loops.
  DERIVED. THE GIVEN ROWS OF THIS SEAT. 11 by the template 'for every input the law returns true; each argument reads behind the call as it read before'; 0 by the template 'total and deterministic' (their statements: YthbnhcgphkghaaaTotals.lean).
  GIVEN WITH THE SEED: the statements are not yours to turn. If you find one false, say at which input.
  Laid BY PROGRAM, IN A SANDBOX (cutbox-rows.mjs): the forced cells as the released guide's own fill.sh prints them over the translation a828b2bfd1970dac… (all of the seat's roots in one cut). By AI agents, Wed Nov 11 2026. No macro, syntax, notation, axiom, sorry.
-/
import Derived.Test.YthbnhcgphkghaaaChecked
import GoSem.Claim
import GoSem.ClaimJoined
import GoSem.ClaimMapViews
import Derived.JoinedTies
import Derived.KernelRfl
namespace Go.Proofs.Ythbnhcgphkghaaa
/- THE CELL 'sum', in the pinned program and in every row, IS THE sha256 OF THE DUMP (.gsa) THAT YthbnhcgphkghaaaProg.lean LOADS. Nothing in Lean hashes anything: it is a label: what it is worth is what the hold of that sum in a sandbox is worth. -/
noncomputable def Try.pinned : Pinned := { name := "ythbnhcgphkghaaa", sum := "a828b2bfd1970dacf1a1baa177d14803208584a8d710c054ebff44d76abb45bb", checked := Try.checked }
namespace Rows
def none {H : Type} : Left H := { results := [], args := [] }

/-- 'obeluslaw11.RunLengths': WHATEVER THE INPUT: true; the input reads as it did. -/
def runLengthsSpec : ChangeSpec := { name := "runLengths", fn := fun _ => fun
  | [d1, d2] => { results := [.lit (.bool true)], args := [d1, d2] }
  | _ => none }
def runLengthsRow : OpenClaim := { program := "ythbnhcgphkghaaa", sum := "a828b2bfd1970dacf1a1baa177d14803208584a8d710c054ebff44d76abb45bb", func := "obelus/obeluslaw11.RunLengths", spec := "runLengths", inPlace := ["internal/abi.NoEscape"], unfollowed := true, recurses := true, loops := true, apart := false }
def RunLengthsSaid : Prop := runLengthsRow.holds Try.pinned (OpenSpec.ofChange runLengthsSpec)

/-- ITS FALSE NEIGHBOUR: 'it returns false'. Refute it at one input. -/
def runLengthsWrong : ChangeSpec := { name := "runLengths", fn := fun _ => fun
  | [d1, d2] => { results := [.lit (.bool false)], args := [d1, d2] }
  | _ => none }
def RunLengthsWrongFalsely : Prop := runLengthsRow.holds Try.pinned (OpenSpec.ofChange runLengthsWrong)

/-- 'obeluslaw11.RunTexts': WHATEVER THE INPUT: true; the input reads as it did. -/
def runTextsSpec : ChangeSpec := { name := "runTexts", fn := fun _ => fun
  | [d] => { results := [.lit (.bool true)], args := [d] }
  | _ => none }
def runTextsRow : OpenClaim := { program := "ythbnhcgphkghaaa", sum := "a828b2bfd1970dacf1a1baa177d14803208584a8d710c054ebff44d76abb45bb", func := "obelus/obeluslaw11.RunTexts", spec := "runTexts", inPlace := ["internal/abi.NoEscape"], unfollowed := true, recurses := true, loops := true, apart := false }
def RunTextsSaid : Prop := runTextsRow.holds Try.pinned (OpenSpec.ofChange runTextsSpec)

/-- ITS FALSE NEIGHBOUR: 'it returns false'. Refute it at one input. -/
def runTextsWrong : ChangeSpec := { name := "runTexts", fn := fun _ => fun
  | [d] => { results := [.lit (.bool false)], args := [d] }
  | _ => none }
def RunTextsWrongFalsely : Prop := runTextsRow.holds Try.pinned (OpenSpec.ofChange runTextsWrong)

/-- 'obeluslaw11.RunEquals': WHATEVER THE INPUT: true; the input reads as it did. -/
def runEqualsSpec : ChangeSpec := { name := "runEquals", fn := fun _ => fun
  | [d1, d2] => { results := [.lit (.bool true)], args := [d1, d2] }
  | _ => none }
def runEqualsRow : OpenClaim := { program := "ythbnhcgphkghaaa", sum := "a828b2bfd1970dacf1a1baa177d14803208584a8d710c054ebff44d76abb45bb", func := "obelus/obeluslaw11.RunEquals", spec := "runEquals", inPlace := ["internal/abi.NoEscape"], unfollowed := true, recurses := true, loops := true, apart := false }
def RunEqualsSaid : Prop := runEqualsRow.holds Try.pinned (OpenSpec.ofChange runEqualsSpec)

/-- ITS FALSE NEIGHBOUR: 'it returns false'. Refute it at one input. -/
def runEqualsWrong : ChangeSpec := { name := "runEquals", fn := fun _ => fun
  | [d1, d2] => { results := [.lit (.bool false)], args := [d1, d2] }
  | _ => none }
def RunEqualsWrongFalsely : Prop := runEqualsRow.holds Try.pinned (OpenSpec.ofChange runEqualsWrong)

/-- 'obeluslaw11.RunNormals': WHATEVER THE INPUT: true; the input reads as it did. -/
def runNormalsSpec : ChangeSpec := { name := "runNormals", fn := fun _ => fun
  | [d] => { results := [.lit (.bool true)], args := [d] }
  | _ => none }
def runNormalsRow : OpenClaim := { program := "ythbnhcgphkghaaa", sum := "a828b2bfd1970dacf1a1baa177d14803208584a8d710c054ebff44d76abb45bb", func := "obelus/obeluslaw11.RunNormals", spec := "runNormals", inPlace := ["internal/abi.NoEscape"], unfollowed := true, recurses := true, loops := true, apart := false }
def RunNormalsSaid : Prop := runNormalsRow.holds Try.pinned (OpenSpec.ofChange runNormalsSpec)

/-- ITS FALSE NEIGHBOUR: 'it returns false'. Refute it at one input. -/
def runNormalsWrong : ChangeSpec := { name := "runNormals", fn := fun _ => fun
  | [d] => { results := [.lit (.bool false)], args := [d] }
  | _ => none }
def RunNormalsWrongFalsely : Prop := runNormalsRow.holds Try.pinned (OpenSpec.ofChange runNormalsWrong)

/-- 'obeluslaw11.RunSlices': WHATEVER THE INPUT: true; the input reads as it did. -/
def runSlicesSpec : ChangeSpec := { name := "runSlices", fn := fun _ => fun
  | [d1, d2, d3] => { results := [.lit (.bool true)], args := [d1, d2, d3] }
  | _ => none }
def runSlicesRow : OpenClaim := { program := "ythbnhcgphkghaaa", sum := "a828b2bfd1970dacf1a1baa177d14803208584a8d710c054ebff44d76abb45bb", func := "obelus/obeluslaw11.RunSlices", spec := "runSlices", inPlace := ["internal/abi.NoEscape"], unfollowed := true, recurses := true, loops := true, apart := false }
def RunSlicesSaid : Prop := runSlicesRow.holds Try.pinned (OpenSpec.ofChange runSlicesSpec)

/-- ITS FALSE NEIGHBOUR: 'it returns false'. Refute it at one input. -/
def runSlicesWrong : ChangeSpec := { name := "runSlices", fn := fun _ => fun
  | [d1, d2, d3] => { results := [.lit (.bool false)], args := [d1, d2, d3] }
  | _ => none }
def RunSlicesWrongFalsely : Prop := runSlicesRow.holds Try.pinned (OpenSpec.ofChange runSlicesWrong)

/-- 'obeluslaw11.RunNests': WHATEVER THE INPUT: true; the input reads as it did. -/
def runNestsSpec : ChangeSpec := { name := "runNests", fn := fun _ => fun
  | [d1, d2] => { results := [.lit (.bool true)], args := [d1, d2] }
  | _ => none }
def runNestsRow : OpenClaim := { program := "ythbnhcgphkghaaa", sum := "a828b2bfd1970dacf1a1baa177d14803208584a8d710c054ebff44d76abb45bb", func := "obelus/obeluslaw11.RunNests", spec := "runNests", inPlace := ["internal/abi.NoEscape"], unfollowed := true, recurses := true, loops := true, apart := false }
def RunNestsSaid : Prop := runNestsRow.holds Try.pinned (OpenSpec.ofChange runNestsSpec)

/-- ITS FALSE NEIGHBOUR: 'it returns false'. Refute it at one input. -/
def runNestsWrong : ChangeSpec := { name := "runNests", fn := fun _ => fun
  | [d1, d2] => { results := [.lit (.bool false)], args := [d1, d2] }
  | _ => none }
def RunNestsWrongFalsely : Prop := runNestsRow.holds Try.pinned (OpenSpec.ofChange runNestsWrong)

/-- 'obeluslaw11.RunParts': WHATEVER THE INPUT: true; the input reads as it did. -/
def runPartsSpec : ChangeSpec := { name := "runParts", fn := fun _ => fun
  | [d1, d2] => { results := [.lit (.bool true)], args := [d1, d2] }
  | _ => none }
def runPartsRow : OpenClaim := { program := "ythbnhcgphkghaaa", sum := "a828b2bfd1970dacf1a1baa177d14803208584a8d710c054ebff44d76abb45bb", func := "obelus/obeluslaw11.RunParts", spec := "runParts", inPlace := ["internal/abi.NoEscape"], unfollowed := true, recurses := true, loops := true, apart := false }
def RunPartsSaid : Prop := runPartsRow.holds Try.pinned (OpenSpec.ofChange runPartsSpec)

/-- ITS FALSE NEIGHBOUR: 'it returns false'. Refute it at one input. -/
def runPartsWrong : ChangeSpec := { name := "runParts", fn := fun _ => fun
  | [d1, d2] => { results := [.lit (.bool false)], args := [d1, d2] }
  | _ => none }
def RunPartsWrongFalsely : Prop := runPartsRow.holds Try.pinned (OpenSpec.ofChange runPartsWrong)

/-- 'obeluslaw11.RunClones': WHATEVER THE INPUT: true; the input reads as it did. -/
def runClonesSpec : ChangeSpec := { name := "runClones", fn := fun _ => fun
  | [d] => { results := [.lit (.bool true)], args := [d] }
  | _ => none }
def runClonesRow : OpenClaim := { program := "ythbnhcgphkghaaa", sum := "a828b2bfd1970dacf1a1baa177d14803208584a8d710c054ebff44d76abb45bb", func := "obelus/obeluslaw11.RunClones", spec := "runClones", inPlace := ["internal/abi.NoEscape"], unfollowed := true, recurses := true, loops := true, apart := false }
def RunClonesSaid : Prop := runClonesRow.holds Try.pinned (OpenSpec.ofChange runClonesSpec)

/-- ITS FALSE NEIGHBOUR: 'it returns false'. Refute it at one input. -/
def runClonesWrong : ChangeSpec := { name := "runClones", fn := fun _ => fun
  | [d] => { results := [.lit (.bool false)], args := [d] }
  | _ => none }
def RunClonesWrongFalsely : Prop := runClonesRow.holds Try.pinned (OpenSpec.ofChange runClonesWrong)

/-- 'obeluslaw11.RunSplits': WHATEVER THE INPUT: true; the input reads as it did. -/
def runSplitsSpec : ChangeSpec := { name := "runSplits", fn := fun _ => fun
  | [d1, d2] => { results := [.lit (.bool true)], args := [d1, d2] }
  | _ => none }
def runSplitsRow : OpenClaim := { program := "ythbnhcgphkghaaa", sum := "a828b2bfd1970dacf1a1baa177d14803208584a8d710c054ebff44d76abb45bb", func := "obelus/obeluslaw11.RunSplits", spec := "runSplits", inPlace := ["internal/abi.NoEscape"], unfollowed := true, recurses := true, loops := true, apart := false }
def RunSplitsSaid : Prop := runSplitsRow.holds Try.pinned (OpenSpec.ofChange runSplitsSpec)

/-- ITS FALSE NEIGHBOUR: 'it returns false'. Refute it at one input. -/
def runSplitsWrong : ChangeSpec := { name := "runSplits", fn := fun _ => fun
  | [d1, d2] => { results := [.lit (.bool false)], args := [d1, d2] }
  | _ => none }
def RunSplitsWrongFalsely : Prop := runSplitsRow.holds Try.pinned (OpenSpec.ofChange runSplitsWrong)

/-- 'obeluslaw11.RunConcats': WHATEVER THE INPUT: true; the input reads as it did. -/
def runConcatsSpec : ChangeSpec := { name := "runConcats", fn := fun _ => fun
  | [d1, d2, d3] => { results := [.lit (.bool true)], args := [d1, d2, d3] }
  | _ => none }
def runConcatsRow : OpenClaim := { program := "ythbnhcgphkghaaa", sum := "a828b2bfd1970dacf1a1baa177d14803208584a8d710c054ebff44d76abb45bb", func := "obelus/obeluslaw11.RunConcats", spec := "runConcats", inPlace := ["internal/abi.NoEscape"], unfollowed := true, recurses := true, loops := true, apart := false }
def RunConcatsSaid : Prop := runConcatsRow.holds Try.pinned (OpenSpec.ofChange runConcatsSpec)

/-- ITS FALSE NEIGHBOUR: 'it returns false'. Refute it at one input. -/
def runConcatsWrong : ChangeSpec := { name := "runConcats", fn := fun _ => fun
  | [d1, d2, d3] => { results := [.lit (.bool false)], args := [d1, d2, d3] }
  | _ => none }
def RunConcatsWrongFalsely : Prop := runConcatsRow.holds Try.pinned (OpenSpec.ofChange runConcatsWrong)

/-- 'obeluslaw11.RunReplaces': WHATEVER THE INPUT: true; the input reads as it did. -/
def runReplacesSpec : ChangeSpec := { name := "runReplaces", fn := fun _ => fun
  | [d1, d2, d3] => { results := [.lit (.bool true)], args := [d1, d2, d3] }
  | _ => none }
def runReplacesRow : OpenClaim := { program := "ythbnhcgphkghaaa", sum := "a828b2bfd1970dacf1a1baa177d14803208584a8d710c054ebff44d76abb45bb", func := "obelus/obeluslaw11.RunReplaces", spec := "runReplaces", inPlace := ["internal/abi.NoEscape"], unfollowed := true, recurses := true, loops := true, apart := false }
def RunReplacesSaid : Prop := runReplacesRow.holds Try.pinned (OpenSpec.ofChange runReplacesSpec)

/-- ITS FALSE NEIGHBOUR: 'it returns false'. Refute it at one input. -/
def runReplacesWrong : ChangeSpec := { name := "runReplaces", fn := fun _ => fun
  | [d1, d2, d3] => { results := [.lit (.bool false)], args := [d1, d2, d3] }
  | _ => none }
def RunReplacesWrongFalsely : Prop := runReplacesRow.holds Try.pinned (OpenSpec.ofChange runReplacesWrong)

/- THE SECOND FORM. 'bulk': how many values and letters a reading holds, each counted each time it is reached (what is shared counts as often as it is met; a slice's spare places count too). A statement '..UptoSaid' is the law's where the arguments, and the package variables that the reading takes, are together of bulk at most 1048576: NARROWER than '..Said'. Prove '..Said' where nothing that the law and all that it calls make is longer than what came in: it says more and counts as full. Else prove '..UptoSaid'. A law counts once. -/
mutual
def uptoBulk {H : Type} : DataW H → Nat
  | .lit (.string bytes) => bytes.length + 1
  | .lit _ => 1
  | .nil => 1
  | .ptr d => uptoBulk d + 1
  | .slice elems spare => uptoBulkAll elems + uptoBulkAll spare + 1
  | .agg parts => uptoBulkAll parts + 1
  | .iface _ d => uptoBulk d + 1
  | .map entries => uptoBulkEntries entries + 1
  | .held _ => 1
def uptoBulkAll {H : Type} : List (DataW H) → Nat
  | [] => 0
  | d :: r => uptoBulk d + uptoBulkAll r
def uptoBulkEntries {H : Type} : List (Lit × DataW H) → Nat
  | [] => 0
  | x :: r => uptoBulkEntry x + uptoBulkEntries r
def uptoBulkEntry {H : Type} : Lit × DataW H → Nat
  | (.string bytes, d) => bytes.length + uptoBulk d + 1
  | (_, d) => uptoBulk d + 1
 end
def uptoSmall : (H : Type) → List (DataW H) → Bool := fun _ ds => decide (uptoBulkAll ds ≤ 1048576)
def OpenSpec.upto (s : _root_.Go.ChangeSpec) : _root_.Go.OpenSpec := { _root_.Go.OpenSpec.ofChange s with cond := some uptoSmall }

/-- 'obeluslaw11.RunLengths', WHERE WHAT IT READS IS OF BULK AT MOST 1048576: true; the input reads as it did. -/
def runLengthsUptoRow : OpenClaim := { program := "ythbnhcgphkghaaa", sum := "a828b2bfd1970dacf1a1baa177d14803208584a8d710c054ebff44d76abb45bb", func := "obelus/obeluslaw11.RunLengths", spec := "runLengths", inPlace := ["internal/abi.NoEscape"], unfollowed := true, recurses := true, loops := true, apart := false, narrowed := true }
def RunLengthsUptoSaid : Prop := runLengthsUptoRow.holds Try.pinned (OpenSpec.upto runLengthsSpec)

/-- 'obeluslaw11.RunTexts', WHERE WHAT IT READS IS OF BULK AT MOST 1048576: true; the input reads as it did. -/
def runTextsUptoRow : OpenClaim := { program := "ythbnhcgphkghaaa", sum := "a828b2bfd1970dacf1a1baa177d14803208584a8d710c054ebff44d76abb45bb", func := "obelus/obeluslaw11.RunTexts", spec := "runTexts", inPlace := ["internal/abi.NoEscape"], unfollowed := true, recurses := true, loops := true, apart := false, narrowed := true }
def RunTextsUptoSaid : Prop := runTextsUptoRow.holds Try.pinned (OpenSpec.upto runTextsSpec)

/-- 'obeluslaw11.RunEquals', WHERE WHAT IT READS IS OF BULK AT MOST 1048576: true; the input reads as it did. -/
def runEqualsUptoRow : OpenClaim := { program := "ythbnhcgphkghaaa", sum := "a828b2bfd1970dacf1a1baa177d14803208584a8d710c054ebff44d76abb45bb", func := "obelus/obeluslaw11.RunEquals", spec := "runEquals", inPlace := ["internal/abi.NoEscape"], unfollowed := true, recurses := true, loops := true, apart := false, narrowed := true }
def RunEqualsUptoSaid : Prop := runEqualsUptoRow.holds Try.pinned (OpenSpec.upto runEqualsSpec)

/-- 'obeluslaw11.RunNormals', WHERE WHAT IT READS IS OF BULK AT MOST 1048576: true; the input reads as it did. -/
def runNormalsUptoRow : OpenClaim := { program := "ythbnhcgphkghaaa", sum := "a828b2bfd1970dacf1a1baa177d14803208584a8d710c054ebff44d76abb45bb", func := "obelus/obeluslaw11.RunNormals", spec := "runNormals", inPlace := ["internal/abi.NoEscape"], unfollowed := true, recurses := true, loops := true, apart := false, narrowed := true }
def RunNormalsUptoSaid : Prop := runNormalsUptoRow.holds Try.pinned (OpenSpec.upto runNormalsSpec)

/-- 'obeluslaw11.RunSlices', WHERE WHAT IT READS IS OF BULK AT MOST 1048576: true; the input reads as it did. -/
def runSlicesUptoRow : OpenClaim := { program := "ythbnhcgphkghaaa", sum := "a828b2bfd1970dacf1a1baa177d14803208584a8d710c054ebff44d76abb45bb", func := "obelus/obeluslaw11.RunSlices", spec := "runSlices", inPlace := ["internal/abi.NoEscape"], unfollowed := true, recurses := true, loops := true, apart := false, narrowed := true }
def RunSlicesUptoSaid : Prop := runSlicesUptoRow.holds Try.pinned (OpenSpec.upto runSlicesSpec)

/-- 'obeluslaw11.RunNests', WHERE WHAT IT READS IS OF BULK AT MOST 1048576: true; the input reads as it did. -/
def runNestsUptoRow : OpenClaim := { program := "ythbnhcgphkghaaa", sum := "a828b2bfd1970dacf1a1baa177d14803208584a8d710c054ebff44d76abb45bb", func := "obelus/obeluslaw11.RunNests", spec := "runNests", inPlace := ["internal/abi.NoEscape"], unfollowed := true, recurses := true, loops := true, apart := false, narrowed := true }
def RunNestsUptoSaid : Prop := runNestsUptoRow.holds Try.pinned (OpenSpec.upto runNestsSpec)

/-- 'obeluslaw11.RunParts', WHERE WHAT IT READS IS OF BULK AT MOST 1048576: true; the input reads as it did. -/
def runPartsUptoRow : OpenClaim := { program := "ythbnhcgphkghaaa", sum := "a828b2bfd1970dacf1a1baa177d14803208584a8d710c054ebff44d76abb45bb", func := "obelus/obeluslaw11.RunParts", spec := "runParts", inPlace := ["internal/abi.NoEscape"], unfollowed := true, recurses := true, loops := true, apart := false, narrowed := true }
def RunPartsUptoSaid : Prop := runPartsUptoRow.holds Try.pinned (OpenSpec.upto runPartsSpec)

/-- 'obeluslaw11.RunClones', WHERE WHAT IT READS IS OF BULK AT MOST 1048576: true; the input reads as it did. -/
def runClonesUptoRow : OpenClaim := { program := "ythbnhcgphkghaaa", sum := "a828b2bfd1970dacf1a1baa177d14803208584a8d710c054ebff44d76abb45bb", func := "obelus/obeluslaw11.RunClones", spec := "runClones", inPlace := ["internal/abi.NoEscape"], unfollowed := true, recurses := true, loops := true, apart := false, narrowed := true }
def RunClonesUptoSaid : Prop := runClonesUptoRow.holds Try.pinned (OpenSpec.upto runClonesSpec)

/-- 'obeluslaw11.RunSplits', WHERE WHAT IT READS IS OF BULK AT MOST 1048576: true; the input reads as it did. -/
def runSplitsUptoRow : OpenClaim := { program := "ythbnhcgphkghaaa", sum := "a828b2bfd1970dacf1a1baa177d14803208584a8d710c054ebff44d76abb45bb", func := "obelus/obeluslaw11.RunSplits", spec := "runSplits", inPlace := ["internal/abi.NoEscape"], unfollowed := true, recurses := true, loops := true, apart := false, narrowed := true }
def RunSplitsUptoSaid : Prop := runSplitsUptoRow.holds Try.pinned (OpenSpec.upto runSplitsSpec)

/-- 'obeluslaw11.RunConcats', WHERE WHAT IT READS IS OF BULK AT MOST 1048576: true; the input reads as it did. -/
def runConcatsUptoRow : OpenClaim := { program := "ythbnhcgphkghaaa", sum := "a828b2bfd1970dacf1a1baa177d14803208584a8d710c054ebff44d76abb45bb", func := "obelus/obeluslaw11.RunConcats", spec := "runConcats", inPlace := ["internal/abi.NoEscape"], unfollowed := true, recurses := true, loops := true, apart := false, narrowed := true }
def RunConcatsUptoSaid : Prop := runConcatsUptoRow.holds Try.pinned (OpenSpec.upto runConcatsSpec)

/-- 'obeluslaw11.RunReplaces', WHERE WHAT IT READS IS OF BULK AT MOST 1048576: true; the input reads as it did. -/
def runReplacesUptoRow : OpenClaim := { program := "ythbnhcgphkghaaa", sum := "a828b2bfd1970dacf1a1baa177d14803208584a8d710c054ebff44d76abb45bb", func := "obelus/obeluslaw11.RunReplaces", spec := "runReplaces", inPlace := ["internal/abi.NoEscape"], unfollowed := true, recurses := true, loops := true, apart := false, narrowed := true }
def RunReplacesUptoSaid : Prop := runReplacesUptoRow.holds Try.pinned (OpenSpec.upto runReplacesSpec)

end Rows
end Go.Proofs.Ythbnhcgphkghaaa
