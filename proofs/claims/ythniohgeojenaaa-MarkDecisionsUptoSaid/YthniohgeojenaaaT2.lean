/-
  Where the fields of structs lie. Written by wip/tools/table2.py.
-/
import Derived.Test.YthniohgeojenaaaT
import Derived.Test.YthniohgeojenaaaA11
import Derived.KernelRfl
namespace Go.Proofs.Ythniohgeojenaaa
open Go

@[reducible, instance] def bd26 : BuildC Try.prog 26 [(0, 1), (1, 1), (2, 1), (3, 1)] := ⟨⟨_, Try.underlying26, by kernel_rfl⟩⟩
@[reducible, instance] def bd28 : BuildC Try.prog 28 [(0, 1), (1, 4)] := ⟨⟨_, Try.underlying28, by kernel_rfl⟩⟩
@[reducible, instance] def bd31 : BuildC Try.prog 31 [(0, 1), (1, 1)] := ⟨⟨_, Try.underlying31, by kernel_rfl⟩⟩
@[reducible, instance] def bd45 : BuildC Try.prog 45 [(0, 1), (1, 1)] := ⟨⟨_, Try.underlying45, by kernel_rfl⟩⟩
@[reducible, instance] def bd54 : BuildC Try.prog 54 [(0, 1), (1, 1)] := ⟨⟨_, Try.underlying54, by kernel_rfl⟩⟩
@[reducible, instance] def bd56 : BuildC Try.prog 56 [(0, 1), (1, 1)] := ⟨⟨_, Try.underlying56, by kernel_rfl⟩⟩
@[reducible, instance] def bd75 : BuildC Try.prog 75 [(0, 1), (1, 1), (2, 1), (3, 1)] := ⟨⟨_, Try.underlying75, by kernel_rfl⟩⟩
@[reducible, instance] def bd94 : BuildC Try.prog 94 [(0, 1), (1, 1)] := ⟨⟨_, Try.underlying94, by kernel_rfl⟩⟩
end Go.Proofs.Ythniohgeojenaaa
