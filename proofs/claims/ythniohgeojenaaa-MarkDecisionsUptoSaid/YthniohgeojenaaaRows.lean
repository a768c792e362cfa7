/-
  No cell of these rows narrows 'for every input' (looked for: loops, veiled, ifaces, maps, wideKeys, modest, calm, conditions, laid).
  DERIVED. THE GIVEN ROWS OF THIS SEAT. 10 by the template 'for every input the law returns true; each argument reads behind the call as it read before'; 0 by the template 'total and deterministic' (their statements: YthniohgeojenaaaTotals.lean).
  GIVEN WITH THE SEED: the statements are not yours to turn. If you find one false, say at which input.
  Laid BY PROGRAM, IN A SANDBOX (cutbox-rows.mjs): the forced cells as the released guide's own fill.sh prints them over the translation 74994733439d9a94… (all of the seat's roots in one cut). By AI agents, Wed Nov 11 2026. No macro, syntax, notation, axiom, sorry.
-/
import Derived.Test.YthniohgeojenaaaChecked
import GoSem.Claim
import GoSem.ClaimJoined
import GoSem.ClaimMapViews
import Derived.JoinedTies
import Derived.KernelRfl
namespace Go.Proofs.Ythniohgeojenaaa
/- THE CELL 'sum', in the pinned program and in every row, IS THE sha256 OF THE DUMP (.gsa) THAT YthniohgeojenaaaProg.lean LOADS. Nothing in Lean hashes anything: it is a label: what it is worth is what the hold of that sum in a sandbox is worth. -/
noncomputable def Try.pinned : Pinned := { name := "ythniohgeojenaaa", sum := "74994733439d9a94b955cb5f93f5f98e41597b1ab83951452242425154e6f3ad", checked := Try.checked }
namespace Rows
def none {H : Type} : Left H := { results := [], args := [] }

/-- 'obeluslaw23.MarkDecides': WHATEVER THE INPUT: true; the input reads as it did. -/
def markDecidesSpec : ChangeSpec := { name := "markDecides", fn := fun _ => fun
  | [d1, d2] => { results := [.lit (.bool true)], args := [d1, d2] }
  | _ => none }
def markDecidesRow : OpenClaim := { program := "ythniohgeojenaaa", sum := "74994733439d9a94b955cb5f93f5f98e41597b1ab83951452242425154e6f3ad", func := "obelus/obeluslaw23.MarkDecides", spec := "markDecides", inPlace := ["slices.overlaps[obelus/api.Prop]"], unfollowed := true, recurses := true, apart := false }
def MarkDecidesSaid : Prop := markDecidesRow.holds Try.pinned (OpenSpec.ofChange markDecidesSpec)

/-- ITS FALSE NEIGHBOUR: 'it returns false'. Refute it at one input. -/
def markDecidesWrong : ChangeSpec := { name := "markDecides", fn := fun _ => fun
  | [d1, d2] => { results := [.lit (.bool false)], args := [d1, d2] }
  | _ => none }
def MarkDecidesWrongFalsely : Prop := markDecidesRow.holds Try.pinned (OpenSpec.ofChange markDecidesWrong)

/-- 'obeluslaw23.MarkEnds': WHATEVER THE INPUT: true; the input reads as it did. -/
def markEndsSpec : ChangeSpec := { name := "markEnds", fn := fun _ => fun
  | [d] => { results := [.lit (.bool true)], args := [d] }
  | _ => none }
def markEndsRow : OpenClaim := { program := "ythniohgeojenaaa", sum := "74994733439d9a94b955cb5f93f5f98e41597b1ab83951452242425154e6f3ad", func := "obelus/obeluslaw23.MarkEnds", spec := "markEnds", inPlace := ["slices.overlaps[obelus/api.Prop]"], unfollowed := true, recurses := true, apart := false }
def MarkEndsSaid : Prop := markEndsRow.holds Try.pinned (OpenSpec.ofChange markEndsSpec)

/-- ITS FALSE NEIGHBOUR: 'it returns false'. Refute it at one input. -/
def markEndsWrong : ChangeSpec := { name := "markEnds", fn := fun _ => fun
  | [d] => { results := [.lit (.bool false)], args := [d] }
  | _ => none }
def MarkEndsWrongFalsely : Prop := markEndsRow.holds Try.pinned (OpenSpec.ofChange markEndsWrong)

/-- 'obeluslaw23.MarkInserts': WHATEVER THE INPUT: true; the input reads as it did. -/
def markInsertsSpec : ChangeSpec := { name := "markInserts", fn := fun _ => fun
  | [d1, d2, d3] => { results := [.lit (.bool true)], args := [d1, d2, d3] }
  | _ => none }
def markInsertsRow : OpenClaim := { program := "ythniohgeojenaaa", sum := "74994733439d9a94b955cb5f93f5f98e41597b1ab83951452242425154e6f3ad", func := "obelus/obeluslaw23.MarkInserts", spec := "markInserts", inPlace := ["slices.overlaps[obelus/api.Prop]"], unfollowed := true, recurses := true, apart := false }
def MarkInsertsSaid : Prop := markInsertsRow.holds Try.pinned (OpenSpec.ofChange markInsertsSpec)

/-- ITS FALSE NEIGHBOUR: 'it returns false'. Refute it at one input. -/
def markInsertsWrong : ChangeSpec := { name := "markInserts", fn := fun _ => fun
  | [d1, d2, d3] => { results := [.lit (.bool false)], args := [d1, d2, d3] }
  | _ => none }
def MarkInsertsWrongFalsely : Prop := markInsertsRow.holds Try.pinned (OpenSpec.ofChange markInsertsWrong)

/-- 'obeluslaw23.MarkDeletes': WHATEVER THE INPUT: true; the input reads as it did. -/
def markDeletesSpec : ChangeSpec := { name := "markDeletes", fn := fun _ => fun
  | [d1, d2, d3] => { results := [.lit (.bool true)], args := [d1, d2, d3] }
  | _ => none }
def markDeletesRow : OpenClaim := { program := "ythniohgeojenaaa", sum := "74994733439d9a94b955cb5f93f5f98e41597b1ab83951452242425154e6f3ad", func := "obelus/obeluslaw23.MarkDeletes", spec := "markDeletes", inPlace := ["slices.overlaps[obelus/api.Del]", "slices.overlaps[obelus/api.Prop]"], unfollowed := true, recurses := true, apart := false }
def MarkDeletesSaid : Prop := markDeletesRow.holds Try.pinned (OpenSpec.ofChange markDeletesSpec)

/-- ITS FALSE NEIGHBOUR: 'it returns false'. Refute it at one input. -/
def markDeletesWrong : ChangeSpec := { name := "markDeletes", fn := fun _ => fun
  | [d1, d2, d3] => { results := [.lit (.bool false)], args := [d1, d2, d3] }
  | _ => none }
def MarkDeletesWrongFalsely : Prop := markDeletesRow.holds Try.pinned (OpenSpec.ofChange markDeletesWrong)

/-- 'obeluslaw23.MarkSets': WHATEVER THE INPUT: true; the input reads as it did. -/
def markSetsSpec : ChangeSpec := { name := "markSets", fn := fun _ => fun
  | [d1, d2, d3] => { results := [.lit (.bool true)], args := [d1, d2, d3] }
  | _ => none }
def markSetsRow : OpenClaim := { program := "ythniohgeojenaaa", sum := "74994733439d9a94b955cb5f93f5f98e41597b1ab83951452242425154e6f3ad", func := "obelus/obeluslaw23.MarkSets", spec := "markSets", inPlace := ["slices.overlaps[obelus/api.Layer]", "slices.overlaps[obelus/api.Prop]"], unfollowed := true, recurses := true, apart := false }
def MarkSetsSaid : Prop := markSetsRow.holds Try.pinned (OpenSpec.ofChange markSetsSpec)

/-- ITS FALSE NEIGHBOUR: 'it returns false'. Refute it at one input. -/
def markSetsWrong : ChangeSpec := { name := "markSets", fn := fun _ => fun
  | [d1, d2, d3] => { results := [.lit (.bool false)], args := [d1, d2, d3] }
  | _ => none }
def MarkSetsWrongFalsely : Prop := markSetsRow.holds Try.pinned (OpenSpec.ofChange markSetsWrong)

/-- 'obeluslaw23.MarkDecisions': WHATEVER THE INPUT: true; the input reads as it did. -/
def markDecisionsSpec : ChangeSpec := { name := "markDecisions", fn := fun _ => fun
  | [d1, d2] => { results := [.lit (.bool true)], args := [d1, d2] }
  | _ => none }
def markDecisionsRow : OpenClaim := { program := "ythniohgeojenaaa", sum := "74994733439d9a94b955cb5f93f5f98e41597b1ab83951452242425154e6f3ad", func := "obelus/obeluslaw23.MarkDecisions", spec := "markDecisions", inPlace := ["slices.overlaps[obelus/api.Prop]"], unfollowed := true, recurses := true, apart := false }
def MarkDecisionsSaid : Prop := markDecisionsRow.holds Try.pinned (OpenSpec.ofChange markDecisionsSpec)

/-- ITS FALSE NEIGHBOUR: 'it returns false'. Refute it at one input. -/
def markDecisionsWrong : ChangeSpec := { name := "markDecisions", fn := fun _ => fun
  | [d1, d2] => { results := [.lit (.bool false)], args := [d1, d2] }
  | _ => none }
def MarkDecisionsWrongFalsely : Prop := markDecisionsRow.holds Try.pinned (OpenSpec.ofChange markDecisionsWrong)

/-- 'obeluslaw23.MarkRemains': WHATEVER THE INPUT: true; the input reads as it did. -/
def markRemainsSpec : ChangeSpec := { name := "markRemains", fn := fun _ => fun
  | [d1, d2] => { results := [.lit (.bool true)], args := [d1, d2] }
  | _ => none }
def markRemainsRow : OpenClaim := { program := "ythniohgeojenaaa", sum := "74994733439d9a94b955cb5f93f5f98e41597b1ab83951452242425154e6f3ad", func := "obelus/obeluslaw23.MarkRemains", spec := "markRemains", inPlace := ["slices.overlaps[obelus/api.Prop]"], unfollowed := true, recurses := true, apart := false }
def MarkRemainsSaid : Prop := markRemainsRow.holds Try.pinned (OpenSpec.ofChange markRemainsSpec)

/-- ITS FALSE NEIGHBOUR: 'it returns false'. Refute it at one input. -/
def markRemainsWrong : ChangeSpec := { name := "markRemains", fn := fun _ => fun
  | [d1, d2] => { results := [.lit (.bool false)], args := [d1, d2] }
  | _ => none }
def MarkRemainsWrongFalsely : Prop := markRemainsRow.holds Try.pinned (OpenSpec.ofChange markRemainsWrong)

/-- 'obeluslaw23.MarkBases': WHATEVER THE INPUT: true; the input reads as it did. -/
def markBasesSpec : ChangeSpec := { name := "markBases", fn := fun _ => fun
  | [d1, d2, d3] => { results := [.lit (.bool true)], args := [d1, d2, d3] }
  | _ => none }
def markBasesRow : OpenClaim := { program := "ythniohgeojenaaa", sum := "74994733439d9a94b955cb5f93f5f98e41597b1ab83951452242425154e6f3ad", func := "obelus/obeluslaw23.MarkBases", spec := "markBases", inPlace := ["slices.overlaps[obelus/api.Prop]"], unfollowed := true, recurses := true, apart := false }
def MarkBasesSaid : Prop := markBasesRow.holds Try.pinned (OpenSpec.ofChange markBasesSpec)

/-- ITS FALSE NEIGHBOUR: 'it returns false'. Refute it at one input. -/
def markBasesWrong : ChangeSpec := { name := "markBases", fn := fun _ => fun
  | [d1, d2, d3] => { results := [.lit (.bool false)], args := [d1, d2, d3] }
  | _ => none }
def MarkBasesWrongFalsely : Prop := markBasesRow.holds Try.pinned (OpenSpec.ofChange markBasesWrong)

/-- 'obeluslaw23.MarkUnites': WHATEVER THE INPUT: true; the input reads as it did. -/
def markUnitesSpec : ChangeSpec := { name := "markUnites", fn := fun _ => fun
  | [d1, d2, d3] => { results := [.lit (.bool true)], args := [d1, d2, d3] }
  | _ => none }
def markUnitesRow : OpenClaim := { program := "ythniohgeojenaaa", sum := "74994733439d9a94b955cb5f93f5f98e41597b1ab83951452242425154e6f3ad", func := "obelus/obeluslaw23.MarkUnites", spec := "markUnites", inPlace := ["slices.overlaps[obelus/api.Prop]"], unfollowed := true, recurses := true, apart := false }
def MarkUnitesSaid : Prop := markUnitesRow.holds Try.pinned (OpenSpec.ofChange markUnitesSpec)

/-- ITS FALSE NEIGHBOUR: 'it returns false'. Refute it at one input. -/
def markUnitesWrong : ChangeSpec := { name := "markUnites", fn := fun _ => fun
  | [d1, d2, d3] => { results := [.lit (.bool false)], args := [d1, d2, d3] }
  | _ => none }
def MarkUnitesWrongFalsely : Prop := markUnitesRow.holds Try.pinned (OpenSpec.ofChange markUnitesWrong)

/-- 'obeluslaw23.MarkUndoes': WHATEVER THE INPUT: true; the input reads as it did. -/
def markUndoesSpec : ChangeSpec := { name := "markUndoes", fn := fun _ => fun
  | [d1, d2, d3] => { results := [.lit (.bool true)], args := [d1, d2, d3] }
  | _ => none }
def markUndoesRow : OpenClaim := { program := "ythniohgeojenaaa", sum := "74994733439d9a94b955cb5f93f5f98e41597b1ab83951452242425154e6f3ad", func := "obelus/obeluslaw23.MarkUndoes", spec := "markUndoes", inPlace := ["slices.overlaps[obelus/api.Prop]", "slices.overlaps[obelus/api.Layer]"], unfollowed := true, recurses := true, apart := false }
def MarkUndoesSaid : Prop := markUndoesRow.holds Try.pinned (OpenSpec.ofChange markUndoesSpec)

/-- ITS FALSE NEIGHBOUR: 'it returns false'. Refute it at one input. -/
def markUndoesWrong : ChangeSpec := { name := "markUndoes", fn := fun _ => fun
  | [d1, d2, d3] => { results := [.lit (.bool false)], args := [d1, d2, d3] }
  | _ => none }
def MarkUndoesWrongFalsely : Prop := markUndoesRow.holds Try.pinned (OpenSpec.ofChange markUndoesWrong)

/- THE SECOND FORM. 'bulk': how many values and letters a reading holds, each counted each time it is reached (what is shared counts as often as it is met; a slice's spare places count too). A statement '..UptoSaid' is the law's where the arguments, and the package variables that the reading takes, are together of bulk at most 1048576: NARROWER than '..Said'. Prove '..Said' where nothing that the law and all that it calls make is longer than what came in: it says more and counts as full. Else prove '..UptoSaid'. A law counts once. -/
mutual
def uptoBulk {H : Type} : DataW H → Nat
  | .lit (.string bytes) => bytes.length + 1
  | .lit _ => 1
  | .nil => 1
  | .ptr d => uptoBulk d + 1
  | .slice elems spare => uptoBulkAll elems + uptoBulkAll spare + 1
  | .agg parts => uptoBulkAll parts + 1
  | .iface _ d => uptoBulk d + 1
  | .map entries => uptoBulkEntries entries + 1
  | .held _ => 1
def uptoBulkAll {H : Type} : List (DataW H) → Nat
  | [] => 0
  | d :: r => uptoBulk d + uptoBulkAll r
def uptoBulkEntries {H : Type} : List (Lit × DataW H) → Nat
  | [] => 0
  | x :: r => uptoBulkEntry x + uptoBulkEntries r
def uptoBulkEntry {H : Type} : Lit × DataW H → Nat
  | (.string bytes, d) => bytes.length + uptoBulk d + 1
  | (_, d) => uptoBulk d + 1
 end
def uptoSmall : (H : Type) → List (DataW H) → Bool := fun _ ds => decide (uptoBulkAll ds ≤ 1048576)
def OpenSpec.upto (s : _root_.Go.ChangeSpec) : _root_.Go.OpenSpec := { _root_.Go.OpenSpec.ofChange s with cond := some uptoSmall }

/-- 'obeluslaw23.MarkDecides', WHERE WHAT IT READS IS OF BULK AT MOST 1048576: true; the input reads as it did. -/
def markDecidesUptoRow : OpenClaim := { program := "ythniohgeojenaaa", sum := "74994733439d9a94b955cb5f93f5f98e41597b1ab83951452242425154e6f3ad", func := "obelus/obeluslaw23.MarkDecides", spec := "markDecides", inPlace := ["slices.overlaps[obelus/api.Prop]"], unfollowed := true, recurses := true, apart := false, narrowed := true }
def MarkDecidesUptoSaid : Prop := markDecidesUptoRow.holds Try.pinned (OpenSpec.upto markDecidesSpec)

/-- 'obeluslaw23.MarkEnds', WHERE WHAT IT READS IS OF BULK AT MOST 1048576: true; the input reads as it did. -/
def markEndsUptoRow : OpenClaim := { program := "ythniohgeojenaaa", sum := "74994733439d9a94b955cb5f93f5f98e41597b1ab83951452242425154e6f3ad", func := "obelus/obeluslaw23.MarkEnds", spec := "markEnds", inPlace := ["slices.overlaps[obelus/api.Prop]"], unfollowed := true, recurses := true, apart := false, narrowed := true }
def MarkEndsUptoSaid : Prop := markEndsUptoRow.holds Try.pinned (OpenSpec.upto markEndsSpec)

/-- 'obeluslaw23.MarkInserts', WHERE WHAT IT READS IS OF BULK AT MOST 1048576: true; the input reads as it did. -/
def markInsertsUptoRow : OpenClaim := { program := "ythniohgeojenaaa", sum := "74994733439d9a94b955cb5f93f5f98e41597b1ab83951452242425154e6f3ad", func := "obelus/obeluslaw23.MarkInserts", spec := "markInserts", inPlace := ["slices.overlaps[obelus/api.Prop]"], unfollowed := true, recurses := true, apart := false, narrowed := true }
def MarkInsertsUptoSaid : Prop := markInsertsUptoRow.holds Try.pinned (OpenSpec.upto markInsertsSpec)

/-- 'obeluslaw23.MarkDeletes', WHERE WHAT IT READS IS OF BULK AT MOST 1048576: true; the input reads as it did. -/
def markDeletesUptoRow : OpenClaim := { program := "ythniohgeojenaaa", sum := "74994733439d9a94b955cb5f93f5f98e41597b1ab83951452242425154e6f3ad", func := "obelus/obeluslaw23.MarkDeletes", spec := "markDeletes", inPlace := ["slices.overlaps[obelus/api.Del]", "slices.overlaps[obelus/api.Prop]"], unfollowed := true, recurses := true, apart := false, narrowed := true }
def MarkDeletesUptoSaid : Prop := markDeletesUptoRow.holds Try.pinned (OpenSpec.upto markDeletesSpec)

/-- 'obeluslaw23.MarkSets', WHERE WHAT IT READS IS OF BULK AT MOST 1048576: true; the input reads as it did. -/
def markSetsUptoRow : OpenClaim := { program := "ythniohgeojenaaa", sum := "74994733439d9a94b955cb5f93f5f98e41597b1ab83951452242425154e6f3ad", func := "obelus/obeluslaw23.MarkSets", spec := "markSets", inPlace := ["slices.overlaps[obelus/api.Layer]", "slices.overlaps[obelus/api.Prop]"], unfollowed := true, recurses := true, apart := false, narrowed := true }
def MarkSetsUptoSaid : Prop := markSetsUptoRow.holds Try.pinned (OpenSpec.upto markSetsSpec)

/-- 'obeluslaw23.MarkDecisions', WHERE WHAT IT READS IS OF BULK AT MOST 1048576: true; the input reads as it did. -/
def markDecisionsUptoRow : OpenClaim := { program := "ythniohgeojenaaa", sum := "74994733439d9a94b955cb5f93f5f98e41597b1ab83951452242425154e6f3ad", func := "obelus/obeluslaw23.MarkDecisions", spec := "markDecisions", inPlace := ["slices.overlaps[obelus/api.Prop]"], unfollowed := true, recurses := true, apart := false, narrowed := true }
def MarkDecisionsUptoSaid : Prop := markDecisionsUptoRow.holds Try.pinned (OpenSpec.upto markDecisionsSpec)

/-- 'obeluslaw23.MarkRemains', WHERE WHAT IT READS IS OF BULK AT MOST 1048576: true; the input reads as it did. -/
def markRemainsUptoRow : OpenClaim := { program := "ythniohgeojenaaa", sum := "74994733439d9a94b955cb5f93f5f98e41597b1ab83951452242425154e6f3ad", func := "obelus/obeluslaw23.MarkRemains", spec := "markRemains", inPlace := ["slices.overlaps[obelus/api.Prop]"], unfollowed := true, recurses := true, apart := false, narrowed := true }
def MarkRemainsUptoSaid : Prop := markRemainsUptoRow.holds Try.pinned (OpenSpec.upto markRemainsSpec)

/-- 'obeluslaw23.MarkBases', WHERE WHAT IT READS IS OF BULK AT MOST 1048576: true; the input reads as it did. -/
def markBasesUptoRow : OpenClaim := { program := "ythniohgeojenaaa", sum := "74994733439d9a94b955cb5f93f5f98e41597b1ab83951452242425154e6f3ad", func := "obelus/obeluslaw23.MarkBases", spec := "markBases", inPlace := ["slices.overlaps[obelus/api.Prop]"], unfollowed := true, recurses := true, apart := false, narrowed := true }
def MarkBasesUptoSaid : Prop := markBasesUptoRow.holds Try.pinned (OpenSpec.upto markBasesSpec)

/-- 'obeluslaw23.MarkUnites', WHERE WHAT IT READS IS OF BULK AT MOST 1048576: true; the input reads as it did. -/
def markUnitesUptoRow : OpenClaim := { program := "ythniohgeojenaaa", sum := "74994733439d9a94b955cb5f93f5f98e41597b1ab83951452242425154e6f3ad", func := "obelus/obeluslaw23.MarkUnites", spec := "markUnites", inPlace := ["slices.overlaps[obelus/api.Prop]"], unfollowed := true, recurses := true, apart := false, narrowed := true }
def MarkUnitesUptoSaid : Prop := markUnitesUptoRow.holds Try.pinned (OpenSpec.upto markUnitesSpec)

/-- 'obeluslaw23.MarkUndoes', WHERE WHAT IT READS IS OF BULK AT MOST 1048576: true; the input reads as it did. -/
def markUndoesUptoRow : OpenClaim := { program := "ythniohgeojenaaa", sum := "74994733439d9a94b955cb5f93f5f98e41597b1ab83951452242425154e6f3ad", func := "obelus/obeluslaw23.MarkUndoes", spec := "markUndoes", inPlace := ["slices.overlaps[obelus/api.Prop]", "slices.overlaps[obelus/api.Layer]"], unfollowed := true, recurses := true, apart := false, narrowed := true }
def MarkUndoesUptoSaid : Prop := markUndoesUptoRow.holds Try.pinned (OpenSpec.upto markUndoesSpec)

end Rows
end Go.Proofs.Ythniohgeojenaaa
