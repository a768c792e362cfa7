/-
  Where the fields of structs lie. Written by wip/tools/table2.py.
-/
import Derived.Test.YtlcoebomgaodgaaT
import Derived.Test.YtlcoebomgaodgaaA11
import Derived.KernelRfl
namespace Go.Proofs.Ytlcoebomgaodgaa
open Go

@[reducible, instance] def bd23 : BuildC Try.prog 23 [(0, 1), (1, 1), (2, 1)] := ⟨⟨_, Try.underlying23, by kernel_rfl⟩⟩
@[reducible, instance] def bd43 : BuildC Try.prog 43 [(0, 1), (1, 1), (2, 1), (3, 1)] := ⟨⟨_, Try.underlying43, by kernel_rfl⟩⟩
@[reducible, instance] def bd51 : BuildC Try.prog 51 [(0, 1), (1, 1)] := ⟨⟨_, Try.underlying51, by kernel_rfl⟩⟩
@[reducible, instance] def bd66 : BuildC Try.prog 66 [(0, 1), (1, 1), (2, 1), (3, 1)] := ⟨⟨_, Try.underlying66, by kernel_rfl⟩⟩
end Go.Proofs.Ytlcoebomgaodgaa
