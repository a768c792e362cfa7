/-
  The law MappingEquals returns true for any two steps of the Go program obelus, and leaves its arguments as they were. Condition: the arguments together hold at most 1048576 values and letters (MappingEqualsUptoSaid).
-/
import Derived.Test.YtcliojofponpnaaB19
namespace Go.Proofs.Ytcliojofponpnaa
open Go Go.RowKit Go.ChangeShapes Go.WideShapes Go.ChangeAt
set_option linter.unusedVariables false
set_option linter.unusedSimpArgs false

theorem prog_own : ownKnob Try.prog.godebug = none := by kernel_rfl
theorem bulk_all {T : Type} {d0 d1 : DataW T} (hk : Rows.uptoSmall T ([d0, d1] ++ []) = true) : Rows.uptoBulk d0 + Rows.uptoBulk d1 ≤ 1048576 := by
  have h := of_decide_eq_true hk
  simp only [List.append_nil, Rows.uptoBulkAll] at h
  omega
set_option maxRecDepth 100000 in
theorem mappingEquals_contract (T : Type) (enc : TypeId × Value → T) (W : World) (base : Nat) (args : Array Value) (ds gs : List (DataW T)) (before : List MemPlace)
    (hval : ∀ (j : Nat) t v, Try.f3.params[j]? = some t → args[j]? = some v → Value.okWide Try.prog W .any base t v)
    (hW : DataW.Whole enc Try.prog Try.f3.params.toList Rows.mappingEqualsSpec.vars false W args.toList ds gs before) (hk : Rows.uptoSmall T (ds ++ gs) = true) :
    Calls Try.prog 3 args W fun e W' => ∃ v, e = .returned v ∧ Rows.mappingEqualsSpec.post enc Try.prog Try.f3 false true false false W args v W' := by
  have hW' := hW
  obtain ⟨p, q, hW0, hV, rfl, hfz, hnd⟩ := hW
  have hA : DataW.TrodAll enc Try.prog W 0 (fun _ => true) true Try.f3.params.toList args.toList ds p := hW0
  rw [Try.params3] at hA hval
  obtain ⟨v0, vs0, d0, ds0, p0, q0, hargs0, rfl, rfl, h0, r0⟩ := trodAll_cons hA
  obtain ⟨v1, vs1, d1, ds1, p1, q1, hargs1, rfl, rfl, h1, r1⟩ := trodAll_cons r0
  obtain ⟨rfl, rfl, rfl⟩ := trodAll_nil r1
  obtain rfl : args = #[v0, v1] := by cases args; simp_all
  obtain ⟨rfl, rfl⟩ := trodVars_none hV
  obtain ⟨c0, s0, rfl, hx0, hb0⟩ := arg_step (hval 0 25 v0 rfl rfl) h0
  obtain ⟨c1, s1, rfl, hx1, hb1⟩ := arg_step (hval 1 25 v1 rfl rfl) h1
  have hbb := bulk_all hk
  refine (Fn.start (MappingEquals_fn hx0 hx1 ⟨by omega, by omega⟩ ⟨by omega, by omega⟩) trivial (Nat.zero_le _)).mono fun e W' ⟨v, H', I', he, hbl, hq, _⟩ => ?_
  subst he hq
  exact ⟨_, rfl, law_post hW' rfl (by rw [Try.params3]; decide +kernel) (by kernel_rfl) rfl rfl rfl hbl⟩

set_option maxRecDepth 100000 in
theorem mappingEquals_lifted (os : Os) (started : os.Started) (T : Type) (enc : TypeId × Value → T) (F : Stop.Interp) :
    ReturnsInHanded {} Try.checked os 3 .any ((Rows.OpenSpec.upto Rows.mappingEqualsSpec).pre6 enc Try.prog Try.f3 Rows.mappingEqualsUptoRow.domain false) (((Rows.OpenSpec.upto Rows.mappingEqualsSpec).at F).post enc Try.prog Try.f3 false true false false) := by
  refine returnsInHanded_of_cond (C := Try.checked) (s := Rows.OpenSpec.upto Rows.mappingEqualsSpec) (k := Rows.uptoSmall) rfl prog_own started (by kernel_rfl) Try.func3
    (OpenSpec.witness (enc := enc) (C := Try.checked) (s := Rows.OpenSpec.upto Rows.mappingEqualsSpec) (k := Rows.uptoSmall) rfl false ⟨#[], #[.agg #[.int .i64 0, .int .i64 0, .int .i64 0, .int .i64 0, .slice none 0 0, .slice none 0 0], .agg #[.int .i64 0, .int .i64 0, .int .i64 0, .int .i64 0, .slice none 0 0, .slice none 0 0]], []⟩ 8 (by kernel_rfl) (by kernel_rfl) (by kernel_rfl)
      (x := ([.agg [.lit (.int .i64 0), .lit (.int .i64 0), .lit (.int .i64 0), .lit (.int .i64 0), .nil, .nil], .agg [.lit (.int .i64 0), .lit (.int .i64 0), .lit (.int .i64 0), .lit (.int .i64 0), .nil, .nil]], [], [])) (by kernel_rfl) rfl (by kernel_rfl)) ?_
  intro W base args ds gs before hval hW _ hk _
  exact mappingEquals_contract T enc W base args ds gs before hval hW hk

/-- The law MappingEquals. -/
theorem mappingEquals_proved : Rows.MappingEqualsUptoSaid :=
  OpenClaim.holds_of_cond 3 Try.f3 rfl rfl rfl rfl rfl rfl rfl ⟨rfl, rfl, rfl, rfl, rfl⟩ rfl rfl rfl rfl rfl (by kernel_rfl) Try.func3 (by kernel_rfl)
    (of_decide_eq_true (by kernel_rfl)) (by unfold Func.isWrapper; first | (rw [if_pos (by decide +kernel)]; kernel_rfl) | (rw [if_neg (by decide +kernel)]; exact ⟨rfl, rfl⟩))
    (fun os started H enc _ F => mappingEquals_lifted os started H enc F)
end Go.Proofs.Ytcliojofponpnaa
