/-
  No cell of these rows narrows 'for every input' (looked for: loops, veiled, ifaces, maps, wideKeys, modest, calm, conditions, laid).
  DERIVED. THE GIVEN ROWS OF THIS SEAT. 8 by the template 'for every input the law returns true; each argument reads behind the call as it read before'; 0 by the template 'total and deterministic' (their statements: YtlcoebomgaodgaaTotals.lean).
  GIVEN WITH THE SEED: the statements are not yours to turn. If you find one false, say at which input.
  Laid BY PROGRAM, IN A SANDBOX (cutbox-rows.mjs): the forced cells as the released guide's own fill.sh prints them over the translation d509023e6a0870df… (all of the seat's roots in one cut). By AI agents, Wed Nov 11 2026. No macro, syntax, notation, axiom, sorry.
-/
import Derived.Test.YtlcoebomgaodgaaChecked
import GoSem.Claim
import GoSem.ClaimJoined
import GoSem.ClaimMapViews
import Derived.JoinedTies
import Derived.KernelRfl
namespace Go.Proofs.Ytlcoebomgaodgaa
/- THE CELL 'sum', in the pinned program and in every row, IS THE sha256 OF THE DUMP (.gsa) THAT YtlcoebomgaodgaaProg.lean LOADS. Nothing in Lean hashes anything: it is a label: what it is worth is what the hold of that sum in a sandbox is worth. -/
noncomputable def Try.pinned : Pinned := { name := "ytlcoebomgaodgaa", sum := "d509023e6a0870df8a29ccb4a08be4ba1edf8d325e98aaf536cc766e84d110b7", checked := Try.checked }
namespace Rows
def none {H : Type} : Left H := { results := [], args := [] }

/-- 'obeluslaw22.RevisionChecks': WHATEVER THE INPUT: true; the input reads as it did. -/
def revisionChecksSpec : ChangeSpec := { name := "revisionChecks", fn := fun _ => fun
  | [d1, d2] => { results := [.lit (.bool true)], args := [d1, d2] }
  | _ => none }
def revisionChecksRow : OpenClaim := { program := "ytlcoebomgaodgaa", sum := "d509023e6a0870df8a29ccb4a08be4ba1edf8d325e98aaf536cc766e84d110b7", func := "obelus/obeluslaw22.RevisionChecks", spec := "revisionChecks", inPlace := ["slices.overlaps[obelus/api.Rev]"], unfollowed := true, recurses := true, apart := false }
def RevisionChecksSaid : Prop := revisionChecksRow.holds Try.pinned (OpenSpec.ofChange revisionChecksSpec)

/-- ITS FALSE NEIGHBOUR: 'it returns false'. Refute it at one input. -/
def revisionChecksWrong : ChangeSpec := { name := "revisionChecks", fn := fun _ => fun
  | [d1, d2] => { results := [.lit (.bool false)], args := [d1, d2] }
  | _ => none }
def RevisionChecksWrongFalsely : Prop := revisionChecksRow.holds Try.pinned (OpenSpec.ofChange revisionChecksWrong)

/-- 'obeluslaw22.RevisionFresh': WHATEVER THE INPUT: true; the input reads as it did. -/
def revisionFreshSpec : ChangeSpec := { name := "revisionFresh", fn := fun _ => fun
  | [d] => { results := [.lit (.bool true)], args := [d] }
  | _ => none }
def revisionFreshRow : OpenClaim := { program := "ytlcoebomgaodgaa", sum := "d509023e6a0870df8a29ccb4a08be4ba1edf8d325e98aaf536cc766e84d110b7", func := "obelus/obeluslaw22.RevisionFresh", spec := "revisionFresh", inPlace := ["slices.overlaps[obelus/api.Rev]"], unfollowed := true, recurses := true, apart := false }
def RevisionFreshSaid : Prop := revisionFreshRow.holds Try.pinned (OpenSpec.ofChange revisionFreshSpec)

/-- ITS FALSE NEIGHBOUR: 'it returns false'. Refute it at one input. -/
def revisionFreshWrong : ChangeSpec := { name := "revisionFresh", fn := fun _ => fun
  | [d] => { results := [.lit (.bool false)], args := [d] }
  | _ => none }
def RevisionFreshWrongFalsely : Prop := revisionFreshRow.holds Try.pinned (OpenSpec.ofChange revisionFreshWrong)

/-- 'obeluslaw22.RevisionMerges': WHATEVER THE INPUT: true; the input reads as it did. -/
def revisionMergesSpec : ChangeSpec := { name := "revisionMerges", fn := fun _ => fun
  | [d1, d2] => { results := [.lit (.bool true)], args := [d1, d2] }
  | _ => none }
def revisionMergesRow : OpenClaim := { program := "ytlcoebomgaodgaa", sum := "d509023e6a0870df8a29ccb4a08be4ba1edf8d325e98aaf536cc766e84d110b7", func := "obelus/obeluslaw22.RevisionMerges", spec := "revisionMerges", inPlace := ["slices.overlaps[obelus/api.Rev]"], unfollowed := true, recurses := true, apart := false }
def RevisionMergesSaid : Prop := revisionMergesRow.holds Try.pinned (OpenSpec.ofChange revisionMergesSpec)

/-- ITS FALSE NEIGHBOUR: 'it returns false'. Refute it at one input. -/
def revisionMergesWrong : ChangeSpec := { name := "revisionMerges", fn := fun _ => fun
  | [d1, d2] => { results := [.lit (.bool false)], args := [d1, d2] }
  | _ => none }
def RevisionMergesWrongFalsely : Prop := revisionMergesRow.holds Try.pinned (OpenSpec.ofChange revisionMergesWrong)

/-- 'obeluslaw22.RevisionSelects': WHATEVER THE INPUT: true; the input reads as it did. -/
def revisionSelectsSpec : ChangeSpec := { name := "revisionSelects", fn := fun _ => fun
  | [d1, d2] => { results := [.lit (.bool true)], args := [d1, d2] }
  | _ => none }
def revisionSelectsRow : OpenClaim := { program := "ytlcoebomgaodgaa", sum := "d509023e6a0870df8a29ccb4a08be4ba1edf8d325e98aaf536cc766e84d110b7", func := "obelus/obeluslaw22.RevisionSelects", spec := "revisionSelects", inPlace := ["slices.overlaps[obelus/api.Rev]"], unfollowed := true, recurses := true, apart := false }
def RevisionSelectsSaid : Prop := revisionSelectsRow.holds Try.pinned (OpenSpec.ofChange revisionSelectsSpec)

/-- ITS FALSE NEIGHBOUR: 'it returns false'. Refute it at one input. -/
def revisionSelectsWrong : ChangeSpec := { name := "revisionSelects", fn := fun _ => fun
  | [d1, d2] => { results := [.lit (.bool false)], args := [d1, d2] }
  | _ => none }
def RevisionSelectsWrongFalsely : Prop := revisionSelectsRow.holds Try.pinned (OpenSpec.ofChange revisionSelectsWrong)

/-- 'obeluslaw22.RevisionFull': WHATEVER THE INPUT: true; the input reads as it did. -/
def revisionFullSpec : ChangeSpec := { name := "revisionFull", fn := fun _ => fun
  | [d1, d2] => { results := [.lit (.bool true)], args := [d1, d2] }
  | _ => none }
def revisionFullRow : OpenClaim := { program := "ytlcoebomgaodgaa", sum := "d509023e6a0870df8a29ccb4a08be4ba1edf8d325e98aaf536cc766e84d110b7", func := "obelus/obeluslaw22.RevisionFull", spec := "revisionFull", inPlace := ["slices.overlaps[obelus/api.Rev]"], unfollowed := true, recurses := true, apart := false }
def RevisionFullSaid : Prop := revisionFullRow.holds Try.pinned (OpenSpec.ofChange revisionFullSpec)

/-- ITS FALSE NEIGHBOUR: 'it returns false'. Refute it at one input. -/
def revisionFullWrong : ChangeSpec := { name := "revisionFull", fn := fun _ => fun
  | [d1, d2] => { results := [.lit (.bool false)], args := [d1, d2] }
  | _ => none }
def RevisionFullWrongFalsely : Prop := revisionFullRow.holds Try.pinned (OpenSpec.ofChange revisionFullWrong)

/-- 'obeluslaw22.RevisionFinds': WHATEVER THE INPUT: true; the input reads as it did. -/
def revisionFindsSpec : ChangeSpec := { name := "revisionFinds", fn := fun _ => fun
  | [d1, d2, d3] => { results := [.lit (.bool true)], args := [d1, d2, d3] }
  | _ => none }
def revisionFindsRow : OpenClaim := { program := "ytlcoebomgaodgaa", sum := "d509023e6a0870df8a29ccb4a08be4ba1edf8d325e98aaf536cc766e84d110b7", func := "obelus/obeluslaw22.RevisionFinds", spec := "revisionFinds", inPlace := ["slices.overlaps[obelus/api.Rev]"], unfollowed := true, recurses := true, apart := false }
def RevisionFindsSaid : Prop := revisionFindsRow.holds Try.pinned (OpenSpec.ofChange revisionFindsSpec)

/-- ITS FALSE NEIGHBOUR: 'it returns false'. Refute it at one input. -/
def revisionFindsWrong : ChangeSpec := { name := "revisionFinds", fn := fun _ => fun
  | [d1, d2, d3] => { results := [.lit (.bool false)], args := [d1, d2, d3] }
  | _ => none }
def RevisionFindsWrongFalsely : Prop := revisionFindsRow.holds Try.pinned (OpenSpec.ofChange revisionFindsWrong)

/-- 'obeluslaw22.RevisionAdds': WHATEVER THE INPUT: true; the input reads as it did. -/
def revisionAddsSpec : ChangeSpec := { name := "revisionAdds", fn := fun _ => fun
  | [d1, d2] => { results := [.lit (.bool true)], args := [d1, d2] }
  | _ => none }
def revisionAddsRow : OpenClaim := { program := "ytlcoebomgaodgaa", sum := "d509023e6a0870df8a29ccb4a08be4ba1edf8d325e98aaf536cc766e84d110b7", func := "obelus/obeluslaw22.RevisionAdds", spec := "revisionAdds", inPlace := ["slices.overlaps[obelus/api.Rev]"], unfollowed := true, recurses := true, apart := false }
def RevisionAddsSaid : Prop := revisionAddsRow.holds Try.pinned (OpenSpec.ofChange revisionAddsSpec)

/-- ITS FALSE NEIGHBOUR: 'it returns false'. Refute it at one input. -/
def revisionAddsWrong : ChangeSpec := { name := "revisionAdds", fn := fun _ => fun
  | [d1, d2] => { results := [.lit (.bool false)], args := [d1, d2] }
  | _ => none }
def RevisionAddsWrongFalsely : Prop := revisionAddsRow.holds Try.pinned (OpenSpec.ofChange revisionAddsWrong)

/-- 'obeluslaw22.RevisionOrders': WHATEVER THE INPUT: true; the input reads as it did. -/
def revisionOrdersSpec : ChangeSpec := { name := "revisionOrders", fn := fun _ => fun
  | [d] => { results := [.lit (.bool true)], args := [d] }
  | _ => none }
def revisionOrdersRow : OpenClaim := { program := "ytlcoebomgaodgaa", sum := "d509023e6a0870df8a29ccb4a08be4ba1edf8d325e98aaf536cc766e84d110b7", func := "obelus/obeluslaw22.RevisionOrders", spec := "revisionOrders", inPlace := ["slices.overlaps[obelus/api.Rev]"], unfollowed := true, recurses := true, apart := false }
def RevisionOrdersSaid : Prop := revisionOrdersRow.holds Try.pinned (OpenSpec.ofChange revisionOrdersSpec)

/-- ITS FALSE NEIGHBOUR: 'it returns false'. Refute it at one input. -/
def revisionOrdersWrong : ChangeSpec := { name := "revisionOrders", fn := fun _ => fun
  | [d] => { results := [.lit (.bool false)], args := [d] }
  | _ => none }
def RevisionOrdersWrongFalsely : Prop := revisionOrdersRow.holds Try.pinned (OpenSpec.ofChange revisionOrdersWrong)

/- THE SECOND FORM. 'bulk': how many values and letters a reading holds, each counted each time it is reached (what is shared counts as often as it is met; a slice's spare places count too). A statement '..UptoSaid' is the law's where the arguments, and the package variables that the reading takes, are together of bulk at most 1048576: NARROWER than '..Said'. Prove '..Said' where nothing that the law and all that it calls make is longer than what came in: it says more and counts as full. Else prove '..UptoSaid'. A law counts once. -/
mutual
def uptoBulk {H : Type} : DataW H → Nat
  | .lit (.string bytes) => bytes.length + 1
  | .lit _ => 1
  | .nil => 1
  | .ptr d => uptoBulk d + 1
  | .slice elems spare => uptoBulkAll elems + uptoBulkAll spare + 1
  | .agg parts => uptoBulkAll parts + 1
  | .iface _ d => uptoBulk d + 1
  | .map entries => uptoBulkEntries entries + 1
  | .held _ => 1
def uptoBulkAll {H : Type} : List (DataW H) → Nat
  | [] => 0
  | d :: r => uptoBulk d + uptoBulkAll r
def uptoBulkEntries {H : Type} : List (Lit × DataW H) → Nat
  | [] => 0
  | x :: r => uptoBulkEntry x + uptoBulkEntries r
def uptoBulkEntry {H : Type} : Lit × DataW H → Nat
  | (.string bytes, d) => bytes.length + uptoBulk d + 1
  | (_, d) => uptoBulk d + 1
 end
def uptoSmall : (H : Type) → List (DataW H) → Bool := fun _ ds => decide (uptoBulkAll ds ≤ 1048576)
def OpenSpec.upto (s : _root_.Go.ChangeSpec) : _root_.Go.OpenSpec := { _root_.Go.OpenSpec.ofChange s with cond := some uptoSmall }

/-- 'obeluslaw22.RevisionChecks', WHERE WHAT IT READS IS OF BULK AT MOST 1048576: true; the input reads as it did. -/
def revisionChecksUptoRow : OpenClaim := { program := "ytlcoebomgaodgaa", sum := "d509023e6a0870df8a29ccb4a08be4ba1edf8d325e98aaf536cc766e84d110b7", func := "obelus/obeluslaw22.RevisionChecks", spec := "revisionChecks", inPlace := ["slices.overlaps[obelus/api.Rev]"], unfollowed := true, recurses := true, apart := false, narrowed := true }
def RevisionChecksUptoSaid : Prop := revisionChecksUptoRow.holds Try.pinned (OpenSpec.upto revisionChecksSpec)

/-- 'obeluslaw22.RevisionFresh', WHERE WHAT IT READS IS OF BULK AT MOST 1048576: true; the input reads as it did. -/
def revisionFreshUptoRow : OpenClaim := { program := "ytlcoebomgaodgaa", sum := "d509023e6a0870df8a29ccb4a08be4ba1edf8d325e98aaf536cc766e84d110b7", func := "obelus/obeluslaw22.RevisionFresh", spec := "revisionFresh", inPlace := ["slices.overlaps[obelus/api.Rev]"], unfollowed := true, recurses := true, apart := false, narrowed := true }
def RevisionFreshUptoSaid : Prop := revisionFreshUptoRow.holds Try.pinned (OpenSpec.upto revisionFreshSpec)

/-- 'obeluslaw22.RevisionMerges', WHERE WHAT IT READS IS OF BULK AT MOST 1048576: true; the input reads as it did. -/
def revisionMergesUptoRow : OpenClaim := { program := "ytlcoebomgaodgaa", sum := "d509023e6a0870df8a29ccb4a08be4ba1edf8d325e98aaf536cc766e84d110b7", func := "obelus/obeluslaw22.RevisionMerges", spec := "revisionMerges", inPlace := ["slices.overlaps[obelus/api.Rev]"], unfollowed := true, recurses := true, apart := false, narrowed := true }
def RevisionMergesUptoSaid : Prop := revisionMergesUptoRow.holds Try.pinned (OpenSpec.upto revisionMergesSpec)

/-- 'obeluslaw22.RevisionSelects', WHERE WHAT IT READS IS OF BULK AT MOST 1048576: true; the input reads as it did. -/
def revisionSelectsUptoRow : OpenClaim := { program := "ytlcoebomgaodgaa", sum := "d509023e6a0870df8a29ccb4a08be4ba1edf8d325e98aaf536cc766e84d110b7", func := "obelus/obeluslaw22.RevisionSelects", spec := "revisionSelects", inPlace := ["slices.overlaps[obelus/api.Rev]"], unfollowed := true, recurses := true, apart := false, narrowed := true }
def RevisionSelectsUptoSaid : Prop := revisionSelectsUptoRow.holds Try.pinned (OpenSpec.upto revisionSelectsSpec)

/-- 'obeluslaw22.RevisionFull', WHERE WHAT IT READS IS OF BULK AT MOST 1048576: true; the input reads as it did. -/
def revisionFullUptoRow : OpenClaim := { program := "ytlcoebomgaodgaa", sum := "d509023e6a0870df8a29ccb4a08be4ba1edf8d325e98aaf536cc766e84d110b7", func := "obelus/obeluslaw22.RevisionFull", spec := "revisionFull", inPlace := ["slices.overlaps[obelus/api.Rev]"], unfollowed := true, recurses := true, apart := false, narrowed := true }
def RevisionFullUptoSaid : Prop := revisionFullUptoRow.holds Try.pinned (OpenSpec.upto revisionFullSpec)

/-- 'obeluslaw22.RevisionFinds', WHERE WHAT IT READS IS OF BULK AT MOST 1048576: true; the input reads as it did. -/
def revisionFindsUptoRow : OpenClaim := { program := "ytlcoebomgaodgaa", sum := "d509023e6a0870df8a29ccb4a08be4ba1edf8d325e98aaf536cc766e84d110b7", func := "obelus/obeluslaw22.RevisionFinds", spec := "revisionFinds", inPlace := ["slices.overlaps[obelus/api.Rev]"], unfollowed := true, recurses := true, apart := false, narrowed := true }
def RevisionFindsUptoSaid : Prop := revisionFindsUptoRow.holds Try.pinned (OpenSpec.upto revisionFindsSpec)

/-- 'obeluslaw22.RevisionAdds', WHERE WHAT IT READS IS OF BULK AT MOST 1048576: true; the input reads as it did. -/
def revisionAddsUptoRow : OpenClaim := { program := "ytlcoebomgaodgaa", sum := "d509023e6a0870df8a29ccb4a08be4ba1edf8d325e98aaf536cc766e84d110b7", func := "obelus/obeluslaw22.RevisionAdds", spec := "revisionAdds", inPlace := ["slices.overlaps[obelus/api.Rev]"], unfollowed := true, recurses := true, apart := false, narrowed := true }
def RevisionAddsUptoSaid : Prop := revisionAddsUptoRow.holds Try.pinned (OpenSpec.upto revisionAddsSpec)

/-- 'obeluslaw22.RevisionOrders', WHERE WHAT IT READS IS OF BULK AT MOST 1048576: true; the input reads as it did. -/
def revisionOrdersUptoRow : OpenClaim := { program := "ytlcoebomgaodgaa", sum := "d509023e6a0870df8a29ccb4a08be4ba1edf8d325e98aaf536cc766e84d110b7", func := "obelus/obeluslaw22.RevisionOrders", spec := "revisionOrders", inPlace := ["slices.overlaps[obelus/api.Rev]"], unfollowed := true, recurses := true, apart := false, narrowed := true }
def RevisionOrdersUptoSaid : Prop := revisionOrdersUptoRow.holds Try.pinned (OpenSpec.upto revisionOrdersSpec)

end Rows
end Go.Proofs.Ytlcoebomgaodgaa
