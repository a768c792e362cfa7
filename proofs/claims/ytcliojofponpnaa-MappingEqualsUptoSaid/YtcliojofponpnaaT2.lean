/-
  Where the fields of structs lie. Written by wip/tools/table2.py.
-/
import Derived.Test.YtcliojofponpnaaT
import Derived.Test.YtcliojofponpnaaA11
import Derived.KernelRfl
namespace Go.Proofs.Ytcliojofponpnaa
open Go

@[reducible, instance] def bd25 : BuildC Try.prog 25 [(0, 1), (1, 1), (2, 1), (3, 1), (4, 1), (5, 1)] := ⟨⟨_, Try.underlying25, by kernel_rfl⟩⟩
@[reducible, instance] def bd29 : BuildC Try.prog 29 [(0, 1), (1, 1)] := ⟨⟨_, Try.underlying29, by kernel_rfl⟩⟩
@[reducible, instance] def bd39 : BuildC Try.prog 39 [(0, 1), (1, 4)] := ⟨⟨_, Try.underlying39, by kernel_rfl⟩⟩
@[reducible, instance] def bd43 : BuildC Try.prog 43 [(0, 1), (1, 1), (2, 1), (3, 1), (4, 5), (9, 1), (10, 1)] := ⟨⟨_, Try.underlying43, by kernel_rfl⟩⟩
@[reducible, instance] def bd50 : BuildC Try.prog 50 [(0, 1), (1, 1), (2, 1), (3, 1)] := ⟨⟨_, Try.underlying50, by kernel_rfl⟩⟩
@[reducible, instance] def bd52 : BuildC Try.prog 52 [(0, 1), (1, 1), (2, 1), (3, 5), (8, 4)] := ⟨⟨_, Try.underlying52, by kernel_rfl⟩⟩
@[reducible, instance] def bd54 : BuildC Try.prog 54 [(0, 1), (1, 1), (2, 1), (3, 1), (4, 12), (16, 12)] := ⟨⟨_, Try.underlying54, by kernel_rfl⟩⟩
@[reducible, instance] def bd58 : BuildC Try.prog 58 [(0, 1), (1, 5), (6, 1), (7, 4)] := ⟨⟨_, Try.underlying58, by kernel_rfl⟩⟩
@[reducible, instance] def bd61 : BuildC Try.prog 61 [(0, 1), (1, 2), (3, 2)] := ⟨⟨_, Try.underlying61, by kernel_rfl⟩⟩
@[reducible, instance] def bd64 : BuildC Try.prog 64 [(0, 1), (1, 1)] := ⟨⟨_, Try.underlying64, by kernel_rfl⟩⟩
@[reducible, instance] def bd92 : BuildC Try.prog 92 [(0, 5), (5, 1)] := ⟨⟨_, Try.underlying92, by kernel_rfl⟩⟩
@[reducible, instance] def bd95 : BuildC Try.prog 95 [(0, 1), (1, 5), (6, 1)] := ⟨⟨_, Try.underlying95, by kernel_rfl⟩⟩
@[reducible, instance] def bd105 : BuildC Try.prog 105 [(0, 1), (1, 1), (2, 1), (3, 1), (4, 1), (5, 1), (6, 1), (7, 1)] := ⟨⟨_, Try.underlying105, by kernel_rfl⟩⟩
end Go.Proofs.Ytcliojofponpnaa
