/-
  run.IsNormal.
-/
import Derived.Test.YtofkolbnhcckkaaGreatR18
namespace Go.Proofs.YtofkolbnhcckkaaGreat
open Go
set_option linter.unusedVariables false
set_option linter.unusedSimpArgs false
attribute [local irreducible] wpA opsA drJ drQ drE Ef Ev Shift Fn
set_option maxRecDepth 100000 in
theorem IsNormal_fn {H : Hp} {a : Option Addr} {n cp : Nat} {l : List Item} (hx : FlowH H a n cp l) (hl : massL l < 34359738368) : Fn Tryz.prog 48 [.slice a n cp] H [] fun v H' I' => v = .bool (decide (l = normL l)) ∧ I' = [] := by
  refine Fn_of _ _ Tryz.func48 rfl Tryz.ntmps48 rfl fun c => ?_
  repeat' (first | (refine O_ef rfl (Ef_call (I := []) WideF.wide (Normal_fn hx (by omega)) ⟨rfl, trivial⟩ rfl ?_); rintro v H1 I1 hle1 ⟨⟨oa, on, oc, rfl, hf⟩, rfl⟩; have e1 := Equal_fn (hx.mono hle1) hf (by omega)) | (refine O_ef rfl (Ef_callp WideF.wide e1 ⟨rfl, rfl, trivial⟩ rfl ?_)) | refine O_nil ?_ | refine A_seq ?_ | refine A_region ?_ | refine A_ret ?_ | (show opsA _ _ _ _ _ _ _; refine O_ev WideF.wide rfl (Ev_pure rfl) rfl rfl ?_))
  exact End_e (Ret1 rfl rfl) ⟨rfl, rfl⟩
end Go.Proofs.YtofkolbnhcckkaaGreat
