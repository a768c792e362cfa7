/-
  The law TransformIndependent returns true for any two splices of the Go program obelus, and leaves its arguments as they were. Condition: the arguments together hold at most 1048576 values and letters (TransformIndependentUptoSaid).
-/
import Derived.Test.YtofkolbnhcckkaaGreatB20
namespace Go.Proofs.YtofkolbnhcckkaaGreat
open Go Go.RowKit Go.ChangeShapes Go.WideShapes Go.ChangeAt
set_option linter.unusedVariables false
set_option linter.unusedSimpArgs false

theorem prog_own : ownKnob Tryz.prog.godebug = none := by kernel_rfl
theorem bulk_all {T : Type} {d0 d1 : DataW T} (hk : Rows.uptoSmall T ([d0, d1] ++ []) = true) : Rows.uptoBulk d0 + Rows.uptoBulk d1 ≤ 1048576 := by
  have h := of_decide_eq_true hk
  simp only [List.append_nil, Rows.uptoBulkAll] at h
  omega
set_option maxRecDepth 100000 in
theorem transformIndependent_contract (T : Type) (enc : TypeId × Value → T) (W : World) (base : Nat) (args : Array Value) (ds gs : List (DataW T)) (before : List MemPlace)
    (hval : ∀ (j : Nat) t v, Tryz.f4.params[j]? = some t → args[j]? = some v → Value.okWide Tryz.prog W .any base t v)
    (hW : DataW.Whole enc Tryz.prog Tryz.f4.params.toList Rows.transformIndependentSpec.vars false W args.toList ds gs before) (hk : Rows.uptoSmall T (ds ++ gs) = true) :
    Calls Tryz.prog 4 args W fun e W' => ∃ v, e = .returned v ∧ Rows.transformIndependentSpec.post enc Tryz.prog Tryz.f4 false true false false W args v W' := by
  have hW' := hW
  obtain ⟨p, q, hW0, hV, rfl, hfz, hnd⟩ := hW
  have hA : DataW.TrodAll enc Tryz.prog W 0 (fun _ => true) true Tryz.f4.params.toList args.toList ds p := hW0
  rw [Tryz.params4] at hA hval
  obtain ⟨v0, vs0, d0, ds0, p0, q0, hargs0, rfl, rfl, h0, r0⟩ := trodAll_cons hA
  obtain ⟨v1, vs1, d1, ds1, p1, q1, hargs1, rfl, rfl, h1, r1⟩ := trodAll_cons r0
  obtain ⟨rfl, rfl, rfl⟩ := trodAll_nil r1
  obtain rfl : args = #[v0, v1] := by cases args; simp_all
  obtain ⟨rfl, rfl⟩ := trodVars_none hV
  have hbb := bulk_all hk
  obtain ⟨c0, s0, rfl, hx0, hm0⟩ := arg_splice (hval 0 41 v0 rfl rfl) h0 (by omega)
  obtain ⟨c1, s1, rfl, hx1, hm1⟩ := arg_splice (hval 1 41 v1 rfl rfl) h1 (by omega)
  refine (Fn.start (TransformIndependent_fn hx0 hx1 hm0 hm1) trivial (Nat.zero_le _)).mono fun e W' ⟨v, H', I', he, hbl, hq, _⟩ => ?_
  subst he hq
  exact ⟨_, rfl, law_post hW' rfl (by rw [Tryz.params4]; decide +kernel) (by kernel_rfl) rfl rfl rfl hbl⟩

set_option maxRecDepth 100000 in
theorem transformIndependent_lifted (os : Os) (started : os.Started) (T : Type) (enc : TypeId × Value → T) (F : Stop.Interp) :
    ReturnsInHanded {} Tryz.checked os 4 .any ((Rows.OpenSpec.upto Rows.transformIndependentSpec).pre6 enc Tryz.prog Tryz.f4 Rows.transformIndependentUptoRow.domain false) (((Rows.OpenSpec.upto Rows.transformIndependentSpec).at F).post enc Tryz.prog Tryz.f4 false true false false) := by
  refine returnsInHanded_of_cond (C := Tryz.checked) (s := Rows.OpenSpec.upto Rows.transformIndependentSpec) (k := Rows.uptoSmall) rfl prog_own started (by kernel_rfl) Tryz.func4
    (OpenSpec.witness (enc := enc) (C := Tryz.checked) (s := Rows.OpenSpec.upto Rows.transformIndependentSpec) (k := Rows.uptoSmall) rfl false ⟨#[], #[.agg #[.int .i64 0, .int .i64 0, .int .i64 0, .int .i64 0, .slice none 0 0, .slice none 0 0, .slice none 0 0, .slice none 0 0, .int .i64 0, .int .i64 0, .slice none 0 0, .slice none 0 0, .slice none 0 0, .slice none 0 0, .slice none 0 0, .slice none 0 0, .slice none 0 0, .slice none 0 0, .slice none 0 0, .slice none 0 0, .int .i64 0, .int .i64 0, .slice none 0 0, .slice none 0 0, .slice none 0 0, .slice none 0 0, .slice none 0 0, .slice none 0 0], .agg #[.int .i64 0, .int .i64 0, .int .i64 0, .int .i64 0, .slice none 0 0, .slice none 0 0, .slice none 0 0, .slice none 0 0, .int .i64 0, .int .i64 0, .slice none 0 0, .slice none 0 0, .slice none 0 0, .slice none 0 0, .slice none 0 0, .slice none 0 0, .slice none 0 0, .slice none 0 0, .slice none 0 0, .slice none 0 0, .int .i64 0, .int .i64 0, .slice none 0 0, .slice none 0 0, .slice none 0 0, .slice none 0 0, .slice none 0 0, .slice none 0 0]], []⟩ 8 (by kernel_rfl) (by kernel_rfl) (by kernel_rfl)
      (x := ([.agg [.lit (.int .i64 0), .lit (.int .i64 0), .lit (.int .i64 0), .lit (.int .i64 0), .agg [.nil, .nil, .nil, .agg [.nil, .agg [.lit (.int .i64 0), .lit (.int .i64 0), .nil, .nil]], .agg [.nil, .nil, .nil, .nil]], .agg [.nil, .nil, .nil, .agg [.nil, .agg [.lit (.int .i64 0), .lit (.int .i64 0), .nil, .nil]], .agg [.nil, .nil, .nil, .nil]]], .agg [.lit (.int .i64 0), .lit (.int .i64 0), .lit (.int .i64 0), .lit (.int .i64 0), .agg [.nil, .nil, .nil, .agg [.nil, .agg [.lit (.int .i64 0), .lit (.int .i64 0), .nil, .nil]], .agg [.nil, .nil, .nil, .nil]], .agg [.nil, .nil, .nil, .agg [.nil, .agg [.lit (.int .i64 0), .lit (.int .i64 0), .nil, .nil]], .agg [.nil, .nil, .nil, .nil]]]], [], [])) (by kernel_rfl) rfl (by kernel_rfl)) ?_
  intro W base args ds gs before hval hW _ hk _
  exact transformIndependent_contract T enc W base args ds gs before hval hW hk

/-- The law TransformIndependent. -/
theorem transformIndependent_proved : Rows.TransformIndependentUptoSaid :=
  OpenClaim.holds_of_cond 4 Tryz.f4 rfl rfl rfl rfl rfl rfl rfl ⟨rfl, rfl, rfl, rfl, rfl⟩ rfl rfl rfl rfl rfl (by kernel_rfl) Tryz.func4 (by kernel_rfl)
    (of_decide_eq_true (by kernel_rfl)) (by unfold Func.isWrapper; first | (rw [if_pos (by decide +kernel)]; kernel_rfl) | (rw [if_neg (by decide +kernel)]; exact ⟨rfl, rfl⟩))
    (fun os started H enc _ F => transformIndependent_lifted os started H enc F)
end Go.Proofs.YtofkolbnhcckkaaGreat
