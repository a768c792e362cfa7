/-
  NARROWER THAN 'FOR EVERY INPUT', by the rows' own cells (each row's printed sentence says how): TransformOvers: loops · TransformIndependent: loops.
  DERIVED. THE GIVEN ROWS OF THIS SEAT. 2 by the template 'for every input the law returns true; each argument reads behind the call as it read before'; 0 by the template 'total and deterministic' (their statements: YtofkolbnhcckkaaGreatTotals.lean).
  GIVEN WITH THE SEED: the statements are not yours to turn. If you find one false, say at which input.
  Laid BY PROGRAM, IN A SANDBOX (cutbox-rows.mjs): the forced cells as the released guide's own fill.sh prints them over the translation 9d678a124d6dbb51… (all of the seat's roots in one cut). By AI agents, Wed Nov 11 2026. No macro, syntax, notation, axiom, sorry.
-/
import Derived.Test.YtofkolbnhcckkaaGreatChecked
import GoSem.Claim
import GoSem.ClaimJoined
import GoSem.ClaimMapViews
import Derived.JoinedTies
import Derived.KernelRfl
namespace Go.Proofs.YtofkolbnhcckkaaGreat
/- THE CELL 'sum', in the pinned program and in every row, IS THE sha256 OF THE DUMP (.gsa) THAT YtofkolbnhcckkaaGreatProg.lean LOADS. Nothing in Lean hashes anything: it is a label: what it is worth is what the hold of that sum in a sandbox is worth. -/
noncomputable def Tryz.pinned : Pinned := { name := "ytofkolbnhcckkaagreat", sum := "9d678a124d6dbb51b2378a0aa123cb8ec4950f2b331b79f27aa35b96ebff9630", checked := Tryz.checked }
namespace Rows
def none {H : Type} : Left H := { results := [], args := [] }

/-- 'obeluslaw20.TransformOvers': WHATEVER THE INPUT: true; the input reads as it did. -/
def transformOversSpec : ChangeSpec := { name := "transformOvers", fn := fun _ => fun
  | [d1, d2, d3] => { results := [.lit (.bool true)], args := [d1, d2, d3] }
  | _ => none }
def transformOversRow : OpenClaim := { program := "ytofkolbnhcckkaagreat", sum := "9d678a124d6dbb51b2378a0aa123cb8ec4950f2b331b79f27aa35b96ebff9630", func := "obelus/obeluslaw20.TransformOvers", spec := "transformOvers", unfollowed := true, recurses := true, loops := true, apart := false }
def TransformOversSaid : Prop := transformOversRow.holds Tryz.pinned (OpenSpec.ofChange transformOversSpec)

/-- ITS FALSE NEIGHBOUR: 'it returns false'. Refute it at one input. -/
def transformOversWrong : ChangeSpec := { name := "transformOvers", fn := fun _ => fun
  | [d1, d2, d3] => { results := [.lit (.bool false)], args := [d1, d2, d3] }
  | _ => none }
def TransformOversWrongFalsely : Prop := transformOversRow.holds Tryz.pinned (OpenSpec.ofChange transformOversWrong)

/-- 'obeluslaw20.TransformIndependent': WHATEVER THE INPUT: true; the input reads as it did. -/
def transformIndependentSpec : ChangeSpec := { name := "transformIndependent", fn := fun _ => fun
  | [d1, d2] => { results := [.lit (.bool true)], args := [d1, d2] }
  | _ => none }
def transformIndependentRow : OpenClaim := { program := "ytofkolbnhcckkaagreat", sum := "9d678a124d6dbb51b2378a0aa123cb8ec4950f2b331b79f27aa35b96ebff9630", func := "obelus/obeluslaw20.TransformIndependent", spec := "transformIndependent", unfollowed := true, recurses := true, loops := true, apart := false }
def TransformIndependentSaid : Prop := transformIndependentRow.holds Tryz.pinned (OpenSpec.ofChange transformIndependentSpec)

/-- ITS FALSE NEIGHBOUR: 'it returns false'. Refute it at one input. -/
def transformIndependentWrong : ChangeSpec := { name := "transformIndependent", fn := fun _ => fun
  | [d1, d2] => { results := [.lit (.bool false)], args := [d1, d2] }
  | _ => none }
def TransformIndependentWrongFalsely : Prop := transformIndependentRow.holds Tryz.pinned (OpenSpec.ofChange transformIndependentWrong)

/- THE SECOND FORM. 'bulk': how many values and letters a reading holds, each counted each time it is reached (what is shared counts as often as it is met; a slice's spare places count too). A statement '..UptoSaid' is the law's where the arguments, and the package variables that the reading takes, are together of bulk at most 1048576: NARROWER than '..Said'. Prove '..Said' where nothing that the law and all that it calls make is longer than what came in: it says more and counts as full. Else prove '..UptoSaid'. A law counts once. -/
mutual
def uptoBulk {H : Type} : DataW H → Nat
  | .lit (.string bytes) => bytes.length + 1
  | .lit _ => 1
  | .nil => 1
  | .ptr d => uptoBulk d + 1
  | .slice elems spare => uptoBulkAll elems + uptoBulkAll spare + 1
  | .agg parts => uptoBulkAll parts + 1
  | .iface _ d => uptoBulk d + 1
  | .map entries => uptoBulkEntries entries + 1
  | .held _ => 1
def uptoBulkAll {H : Type} : List (DataW H) → Nat
  | [] => 0
  | d :: r => uptoBulk d + uptoBulkAll r
def uptoBulkEntries {H : Type} : List (Lit × DataW H) → Nat
  | [] => 0
  | x :: r => uptoBulkEntry x + uptoBulkEntries r
def uptoBulkEntry {H : Type} : Lit × DataW H → Nat
  | (.string bytes, d) => bytes.length + uptoBulk d + 1
  | (_, d) => uptoBulk d + 1
 end
def uptoSmall : (H : Type) → List (DataW H) → Bool := fun _ ds => decide (uptoBulkAll ds ≤ 1048576)
def OpenSpec.upto (s : _root_.Go.ChangeSpec) : _root_.Go.OpenSpec := { _root_.Go.OpenSpec.ofChange s with cond := some uptoSmall }

/-- 'obeluslaw20.TransformOvers', WHERE WHAT IT READS IS OF BULK AT MOST 1048576: true; the input reads as it did. -/
def transformOversUptoRow : OpenClaim := { program := "ytofkolbnhcckkaagreat", sum := "9d678a124d6dbb51b2378a0aa123cb8ec4950f2b331b79f27aa35b96ebff9630", func := "obelus/obeluslaw20.TransformOvers", spec := "transformOvers", unfollowed := true, recurses := true, loops := true, apart := false, narrowed := true }
def TransformOversUptoSaid : Prop := transformOversUptoRow.holds Tryz.pinned (OpenSpec.upto transformOversSpec)

/-- 'obeluslaw20.TransformIndependent', WHERE WHAT IT READS IS OF BULK AT MOST 1048576: true; the input reads as it did. -/
def transformIndependentUptoRow : OpenClaim := { program := "ytofkolbnhcckkaagreat", sum := "9d678a124d6dbb51b2378a0aa123cb8ec4950f2b331b79f27aa35b96ebff9630", func := "obelus/obeluslaw20.TransformIndependent", spec := "transformIndependent", unfollowed := true, recurses := true, loops := true, apart := false, narrowed := true }
def TransformIndependentUptoSaid : Prop := transformIndependentUptoRow.holds Tryz.pinned (OpenSpec.upto transformIndependentSpec)

end Rows
end Go.Proofs.YtofkolbnhcckkaaGreat
