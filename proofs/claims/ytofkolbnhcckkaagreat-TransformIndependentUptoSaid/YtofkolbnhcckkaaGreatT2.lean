/-
  Where the fields of structs lie. Written by wip/tools/table2.py.
-/
import Derived.Test.YtofkolbnhcckkaaGreatT
import Derived.Test.YtofkolbnhcckkaaGreatA11
import Derived.KernelRfl
namespace Go.Proofs.YtofkolbnhcckkaaGreat
open Go

@[reducible, instance] def bd31 : BuildC Tryz.prog 31 [(0, 1), (1, 4)] := ⟨⟨_, Tryz.underlying31, by kernel_rfl⟩⟩
@[reducible, instance] def bd37 : BuildC Tryz.prog 37 [(0, 1), (1, 1), (2, 1), (3, 1)] := ⟨⟨_, Tryz.underlying37, by kernel_rfl⟩⟩
@[reducible, instance] def bd39 : BuildC Tryz.prog 39 [(0, 1), (1, 1), (2, 1), (3, 5), (8, 4)] := ⟨⟨_, Tryz.underlying39, by kernel_rfl⟩⟩
@[reducible, instance] def bd41 : BuildC Tryz.prog 41 [(0, 1), (1, 1), (2, 1), (3, 1), (4, 12), (16, 12)] := ⟨⟨_, Tryz.underlying41, by kernel_rfl⟩⟩
@[reducible, instance] def bd60 : BuildC Tryz.prog 60 [(0, 1), (1, 1), (2, 1), (3, 1), (4, 5), (9, 1), (10, 1)] := ⟨⟨_, Tryz.underlying60, by kernel_rfl⟩⟩
@[reducible, instance] def bd62 : BuildC Tryz.prog 62 [(0, 5), (5, 1)] := ⟨⟨_, Tryz.underlying62, by kernel_rfl⟩⟩
@[reducible, instance] def bd65 : BuildC Tryz.prog 65 [(0, 1), (1, 1), (2, 1), (3, 1), (4, 1), (5, 1), (6, 1), (7, 1)] := ⟨⟨_, Tryz.underlying65, by kernel_rfl⟩⟩
@[reducible, instance] def bd75 : BuildC Tryz.prog 75 [(0, 1), (1, 1), (2, 1)] := ⟨⟨_, Tryz.underlying75, by kernel_rfl⟩⟩
@[reducible, instance] def bd90 : BuildC Tryz.prog 90 [(0, 1), (1, 5), (6, 1)] := ⟨⟨_, Tryz.underlying90, by kernel_rfl⟩⟩
@[reducible, instance] def bd106 : BuildC Tryz.prog 106 [(0, 1), (1, 5), (6, 1), (7, 4)] := ⟨⟨_, Tryz.underlying106, by kernel_rfl⟩⟩
end Go.Proofs.YtofkolbnhcckkaaGreat
