/-
  Settings as data.
-/
import Derived.Test.YthniohgeojenaaaM0
namespace Go.Proofs.Ythniohgeojenaaa
open Go
set_option linter.unusedVariables false
set_option linter.unusedSimpArgs false
/-- what is set -/
structure Sett where
  key : Int
  val : Int
  clear : Bool
def srow (s : Sett) : List Value := [.int .i64 s.key, .int .i64 s.val, .bool s.clear]
end Go.Proofs.Ythniohgeojenaaa
