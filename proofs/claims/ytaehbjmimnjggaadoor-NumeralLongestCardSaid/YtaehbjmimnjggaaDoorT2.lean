/-
  Where the fields of structs lie. Written by wip/tools/table2.py.
-/
import Derived.Test.YtaehbjmimnjggaaDoorT
import Derived.Test.YtaehbjmimnjggaaDoorA11
import Derived.KernelRfl
namespace Go.Proofs.YtaehbjmimnjggaaDoor
open Go

@[reducible, instance] def bd50 : BuildC Tryd.prog 50 [(0, 1), (1, 1)] := ⟨⟨_, Tryd.underlying50, by kernel_rfl⟩⟩
@[reducible, instance] def bd104 : BuildC Tryd.prog 104 [(0, 1), (1, 1)] := ⟨⟨_, Tryd.underlying104, by kernel_rfl⟩⟩
end Go.Proofs.YtaehbjmimnjggaaDoor
