/-
  A seat of no package-level variables.
-/
import Derived.Test.YtofkolbnhcckkaaGreatChecked
namespace Go.Proofs.YtofkolbnhcckkaaGreat
open Go
def NG : Nat := 0
def Glob (_ : World) : Prop := True
theorem Glob.of_blocks {w w' : World} (_ : Glob w) (_ : ∀ k, k < NG → w'.heap[k]? = w.heap[k]?) : Glob w' := trivial
end Go.Proofs.YtofkolbnhcckkaaGreat
