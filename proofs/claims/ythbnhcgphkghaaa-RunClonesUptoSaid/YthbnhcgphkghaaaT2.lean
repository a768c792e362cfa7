/-
  Where the fields of structs lie. Written by wip/tools/table2.py.
-/
import Derived.Test.YthbnhcgphkghaaaT
import Derived.Test.YthbnhcgphkghaaaA11
import Derived.KernelRfl
namespace Go.Proofs.Ythbnhcgphkghaaa
open Go

@[reducible, instance] def bd44 : BuildC Try.prog 44 [(0, 1), (1, 1), (2, 1), (3, 1)] := ⟨⟨_, Try.underlying44, by kernel_rfl⟩⟩
@[reducible, instance] def bd46 : BuildC Try.prog 46 [(0, 1), (1, 4)] := ⟨⟨_, Try.underlying46, by kernel_rfl⟩⟩
@[reducible, instance] def bd49 : BuildC Try.prog 49 [(0, 1), (1, 1), (2, 1), (3, 1), (4, 5), (9, 1), (10, 1)] := ⟨⟨_, Try.underlying49, by kernel_rfl⟩⟩
@[reducible, instance] def bd61 : BuildC Try.prog 61 [(0, 5), (5, 1)] := ⟨⟨_, Try.underlying61, by kernel_rfl⟩⟩
@[reducible, instance] def bd67 : BuildC Try.prog 67 [(0, 1), (1, 5), (6, 1)] := ⟨⟨_, Try.underlying67, by kernel_rfl⟩⟩
@[reducible, instance] def bd70 : BuildC Try.prog 70 [(0, 1), (1, 1)] := ⟨⟨_, Try.underlying70, by kernel_rfl⟩⟩
end Go.Proofs.Ythbnhcgphkghaaa
