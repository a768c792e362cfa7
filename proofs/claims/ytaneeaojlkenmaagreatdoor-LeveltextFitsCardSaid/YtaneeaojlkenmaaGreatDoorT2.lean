/-
  Where the fields of structs lie. Written by wip/tools/table2.py.
-/
import Derived.Test.YtaneeaojlkenmaaGreatDoorT
import Derived.Test.YtaneeaojlkenmaaGreatDoorA11
import Derived.KernelRfl
namespace Go.Proofs.YtaneeaojlkenmaaGreatDoor
open Go

@[reducible, instance] def bd43 : BuildC Tryz.prog 43 [(0, 1), (1, 1), (2, 1), (3, 1)] := ⟨⟨_, Tryz.underlying43, by kernel_rfl⟩⟩
@[reducible, instance] def bd61 : BuildC Tryz.prog 61 [(0, 1), (1, 1), (2, 1)] := ⟨⟨_, Tryz.underlying61, by kernel_rfl⟩⟩
@[reducible, instance] def bd63 : BuildC Tryz.prog 63 [(0, 1), (1, 1), (2, 1)] := ⟨⟨_, Tryz.underlying63, by kernel_rfl⟩⟩
@[reducible, instance] def bd76 : BuildC Tryz.prog 76 [(0, 1), (1, 1), (2, 2), (4, 1), (5, 1), (6, 1)] := ⟨⟨_, Tryz.underlying76, by kernel_rfl⟩⟩
@[reducible, instance] def bd94 : BuildC Tryz.prog 94 [(0, 1), (1, 1), (2, 1), (3, 1)] := ⟨⟨_, Tryz.underlying94, by kernel_rfl⟩⟩
@[reducible, instance] def bd167 : BuildC Tryz.prog 167 [(0, 1), (1, 1)] := ⟨⟨_, Tryz.underlying167, by kernel_rfl⟩⟩
@[reducible, instance] def bd185 : BuildC Tryz.prog 185 [(0, 1), (1, 1)] := ⟨⟨_, Tryz.underlying185, by kernel_rfl⟩⟩
end Go.Proofs.YtaneeaojlkenmaaGreatDoor
