/-
  The law RevisionOrders returns true for any table of the Go program obelus, and leaves its argument as it was. Condition: the arguments together hold at most 1048576 values and letters (RevisionOrdersUptoSaid).
-/
import Derived.Test.YtlcoebomgaodgaaQ25
import Derived.Test.YtlcoebomgaodgaaQB
namespace Go.Proofs.Ytlcoebomgaodgaa
open Go Go.RowKit Go.ChangeShapes Go.WideShapes Go.ChangeAt
set_option linter.unusedVariables false
set_option linter.unusedSimpArgs false

theorem prog_own : ownKnob Try.prog.godebug = none := by kernel_rfl
theorem bulk_all {T : Type} {d0 : DataW T} (hk : Rows.uptoSmall T ([d0] ++ []) = true) : Rows.uptoBulk d0 ≤ 1048576 := by
  have h := of_decide_eq_true hk
  simp only [List.append_nil, Rows.uptoBulkAll] at h
  omega
set_option maxRecDepth 100000 in
theorem revisionOrders_contract (T : Type) (enc : TypeId × Value → T) (W : World) (base : Nat) (args : Array Value) (ds gs : List (DataW T)) (before : List MemPlace)
    (hval : ∀ (j : Nat) t v, Try.f10.params[j]? = some t → args[j]? = some v → Value.okWide Try.prog W .any base t v)
    (hW : DataW.Whole enc Try.prog Try.f10.params.toList Rows.revisionOrdersSpec.vars false W args.toList ds gs before) (hk : Rows.uptoSmall T (ds ++ gs) = true) :
    Calls Try.prog 10 args W fun e W' => ∃ v, e = .returned v ∧ Rows.revisionOrdersSpec.post enc Try.prog Try.f10 false true false false W args v W' := by
  have hW' := hW
  obtain ⟨p, q, hW0, hV, rfl, hfz, hnd⟩ := hW
  have hA : DataW.TrodAll enc Try.prog W 0 (fun _ => true) true Try.f10.params.toList args.toList ds p := hW0
  rw [Try.params10] at hA hval
  obtain ⟨v0, vs0, d0, ds0, p0, q0, hargs0, rfl, rfl, h0, r0⟩ := trodAll_cons hA
  obtain ⟨rfl, rfl, rfl⟩ := trodAll_nil r0
  obtain rfl : args = #[v0] := by cases args; simp_all
  obtain ⟨rfl, rfl⟩ := trodVars_none hV
  obtain ⟨a0, m0, c0, l0, rfl, hx0, hb0, hA0⟩ := arg_revs (hval 0 24 v0 rfl rfl) h0
  have hbb := bulk_all hk
  refine (Fn.start (RevisionOrders_fn hx0 ⟨by omega, fun r hr => by have := hA0 r hr; omega⟩) trivial (Nat.zero_le _)).mono fun e W' ⟨v, H', I', he, hbl, hq, _⟩ => ?_
  subst he hq
  exact ⟨_, rfl, law_post hW' rfl (by rw [Try.params10]; decide +kernel) (by kernel_rfl) rfl rfl rfl hbl⟩

set_option maxRecDepth 100000 in
theorem revisionOrders_lifted (os : Os) (started : os.Started) (T : Type) (enc : TypeId × Value → T) (F : Stop.Interp) :
    ReturnsInHanded {} Try.checked os 10 .any ((Rows.OpenSpec.upto Rows.revisionOrdersSpec).pre6 enc Try.prog Try.f10 Rows.revisionOrdersUptoRow.domain false) (((Rows.OpenSpec.upto Rows.revisionOrdersSpec).at F).post enc Try.prog Try.f10 false true false false) := by
  refine returnsInHanded_of_cond (C := Try.checked) (s := Rows.OpenSpec.upto Rows.revisionOrdersSpec) (k := Rows.uptoSmall) rfl prog_own started (by kernel_rfl) Try.func10
    (OpenSpec.witness (enc := enc) (C := Try.checked) (s := Rows.OpenSpec.upto Rows.revisionOrdersSpec) (k := Rows.uptoSmall) rfl false ⟨#[], #[.slice none 0 0], []⟩ 8 (by kernel_rfl) (by kernel_rfl) (by kernel_rfl)
      (x := ([.nil], [], [])) (by kernel_rfl) rfl (by kernel_rfl)) ?_
  intro W base args ds gs before hval hW _ hk _
  exact revisionOrders_contract T enc W base args ds gs before hval hW hk

/-- The law RevisionOrders. -/
theorem revisionOrders_proved : Rows.RevisionOrdersUptoSaid :=
  OpenClaim.holds_of_cond 10 Try.f10 rfl rfl rfl rfl rfl rfl rfl ⟨rfl, rfl, rfl, rfl, rfl⟩ rfl rfl rfl rfl rfl (by kernel_rfl) Try.func10 (by kernel_rfl)
    (of_decide_eq_true (by kernel_rfl)) (by unfold Func.isWrapper; first | (rw [if_pos (by decide +kernel)]; kernel_rfl) | (rw [if_neg (by decide +kernel)]; exact ⟨rfl, rfl⟩))
    (fun os started H enc _ F => revisionOrders_lifted os started H enc F)
end Go.Proofs.Ytlcoebomgaodgaa
