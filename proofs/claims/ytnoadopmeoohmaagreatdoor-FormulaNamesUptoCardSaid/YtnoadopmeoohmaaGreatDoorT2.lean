/-
  Where the fields of structs lie. Written by wip/tools/table2.py.
-/
import Derived.Test.YtnoadopmeoohmaaGreatDoorT
import Derived.Test.YtnoadopmeoohmaaGreatDoorA11
import Derived.KernelRfl
namespace Go.Proofs.YtnoadopmeoohmaaGreatDoor
open Go

@[reducible, instance] def bd24 : BuildC Tryz.prog 24 [(0, 1), (1, 1), (2, 1), (3, 1)] := ⟨⟨_, Tryz.underlying24, by kernel_rfl⟩⟩
@[reducible, instance] def bd37 : BuildC Tryz.prog 37 [(0, 1), (1, 1), (2, 1)] := ⟨⟨_, Tryz.underlying37, by kernel_rfl⟩⟩
@[reducible, instance] def bd39 : BuildC Tryz.prog 39 [(0, 1), (1, 3)] := ⟨⟨_, Tryz.underlying39, by kernel_rfl⟩⟩
@[reducible, instance] def bd61 : BuildC Tryz.prog 61 [(0, 4), (4, 1)] := ⟨⟨_, Tryz.underlying61, by kernel_rfl⟩⟩
@[reducible, instance] def bd65 : BuildC Tryz.prog 65 [(0, 1), (1, 1)] := ⟨⟨_, Tryz.underlying65, by kernel_rfl⟩⟩
@[reducible, instance] def bd70 : BuildC Tryz.prog 70 [(0, 1), (1, 1), (2, 1)] := ⟨⟨_, Tryz.underlying70, by kernel_rfl⟩⟩
@[reducible, instance] def bd72 : BuildC Tryz.prog 72 [(0, 1), (1, 3)] := ⟨⟨_, Tryz.underlying72, by kernel_rfl⟩⟩
@[reducible, instance] def bd77 : BuildC Tryz.prog 77 [(0, 1), (1, 1), (2, 1)] := ⟨⟨_, Tryz.underlying77, by kernel_rfl⟩⟩
@[reducible, instance] def bd79 : BuildC Tryz.prog 79 [(0, 1), (1, 3), (4, 1), (5, 1), (6, 1)] := ⟨⟨_, Tryz.underlying79, by kernel_rfl⟩⟩
@[reducible, instance] def bd106 : BuildC Tryz.prog 106 [(0, 1), (1, 1), (2, 1)] := ⟨⟨_, Tryz.underlying106, by kernel_rfl⟩⟩
@[reducible, instance] def bd121 : BuildC Tryz.prog 121 [(0, 1), (1, 1), (2, 1), (3, 1)] := ⟨⟨_, Tryz.underlying121, by kernel_rfl⟩⟩
@[reducible, instance] def bd212 : BuildC Tryz.prog 212 [(0, 1), (1, 1)] := ⟨⟨_, Tryz.underlying212, by kernel_rfl⟩⟩
@[reducible, instance] def bd217 : BuildC Tryz.prog 217 [(0, 1), (1, 1), (2, 1)] := ⟨⟨_, Tryz.underlying217, by kernel_rfl⟩⟩
@[reducible, instance] def bd227 : BuildC Tryz.prog 227 [(0, 1)] := ⟨⟨_, Tryz.underlying227, by kernel_rfl⟩⟩
end Go.Proofs.YtnoadopmeoohmaaGreatDoor
