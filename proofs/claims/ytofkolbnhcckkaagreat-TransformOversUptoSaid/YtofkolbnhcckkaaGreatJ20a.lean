/-
  The law TransformOvers returns true for any two splices and either order of the Go program obelus, and leaves its arguments as they were. Condition: the arguments together hold at most 1048576 values and letters (TransformOversUptoSaid).
-/
import Derived.Test.YtofkolbnhcckkaaGreatB20
namespace Go.Proofs.YtofkolbnhcckkaaGreat
open Go Go.RowKit Go.ChangeShapes Go.WideShapes Go.ChangeAt
set_option linter.unusedVariables false
set_option linter.unusedSimpArgs false

theorem prog_own : ownKnob Tryz.prog.godebug = none := by kernel_rfl
theorem bulk_all {T : Type} {d0 d1 d2 : DataW T} (hk : Rows.uptoSmall T ([d0, d1, d2] ++ []) = true) : Rows.uptoBulk d0 + Rows.uptoBulk d1 + Rows.uptoBulk d2 ≤ 1048576 := by
  have h := of_decide_eq_true hk
  simp only [List.append_nil, Rows.uptoBulkAll] at h
  omega
set_option maxRecDepth 100000 in
theorem transformOvers_contract (T : Type) (enc : TypeId × Value → T) (W : World) (base : Nat) (args : Array Value) (ds gs : List (DataW T)) (before : List MemPlace)
    (hval : ∀ (j : Nat) t v, Tryz.f3.params[j]? = some t → args[j]? = some v → Value.okWide Tryz.prog W .any base t v)
    (hW : DataW.Whole enc Tryz.prog Tryz.f3.params.toList Rows.transformOversSpec.vars false W args.toList ds gs before) (hk : Rows.uptoSmall T (ds ++ gs) = true) :
    Calls Tryz.prog 3 args W fun e W' => ∃ v, e = .returned v ∧ Rows.transformOversSpec.post enc Tryz.prog Tryz.f3 false true false false W args v W' := by
  have hW' := hW
  obtain ⟨p, q, hW0, hV, rfl, hfz, hnd⟩ := hW
  have hA : DataW.TrodAll enc Tryz.prog W 0 (fun _ => true) true Tryz.f3.params.toList args.toList ds p := hW0
  rw [Tryz.params3] at hA hval
  obtain ⟨v0, vs0, d0, ds0, p0, q0, hargs0, rfl, rfl, h0, r0⟩ := trodAll_cons hA
  obtain ⟨v1, vs1, d1, ds1, p1, q1, hargs1, rfl, rfl, h1, r1⟩ := trodAll_cons r0
  obtain ⟨v2, vs2, d2, ds2, p2, q2, hargs2, rfl, rfl, h2, r2⟩ := trodAll_cons r1
  obtain ⟨rfl, rfl, rfl⟩ := trodAll_nil r2
  obtain rfl : args = #[v0, v1, v2] := by cases args; simp_all
  obtain ⟨rfl, rfl⟩ := trodVars_none hV
  have hbb := bulk_all hk
  obtain ⟨c0, s0, rfl, hx0, hm0⟩ := arg_splice (hval 0 41 v0 rfl rfl) h0 (by omega)
  obtain ⟨c1, s1, rfl, hx1, hm1⟩ := arg_splice (hval 1 41 v1 rfl rfl) h1 (by omega)
  obtain ⟨b2, rfl⟩ := okWide_bool Tryz.underlying4 (hval 2 4 v2 rfl rfl)
  refine (Fn.start (TransformOvers_fn hx0 hx1 hm0 hm1) trivial (Nat.zero_le _)).mono fun e W' ⟨v, H', I', he, hbl, hq, _⟩ => ?_
  subst he hq
  exact ⟨_, rfl, law_post hW' rfl (by rw [Tryz.params3]; decide +kernel) (by kernel_rfl) rfl rfl rfl hbl⟩

set_option maxRecDepth 100000 in
theorem transformOvers_lifted (os : Os) (started : os.Started) (T : Type) (enc : TypeId × Value → T) (F : Stop.Interp) :
    ReturnsInHanded {} Tryz.checked os 3 .any ((Rows.OpenSpec.upto Rows.transformOversSpec).pre6 enc Tryz.prog Tryz.f3 Rows.transformOversUptoRow.domain false) (((Rows.OpenSpec.upto Rows.transformOversSpec).at F).post enc Tryz.prog Tryz.f3 false true false false) := by
  refine returnsInHanded_of_cond (C := Tryz.checked) (s := Rows.OpenSpec.upto Rows.transformOversSpec) (k := Rows.uptoSmall) rfl prog_own started (by kernel_rfl) Tryz.func3
    (OpenSpec.witness (enc := enc) (C := Tryz.checked) (s := Rows.OpenSpec.upto Rows.transformOversSpec) (k := Rows.uptoSmall) rfl false ⟨#[], #[.agg #[.int .i64 0, .int .i64 0, .int .i64 0, .int .i64 0, .slice none 0 0, .slice none 0 0, .slice none 0 0, .slice none 0 0, .int .i64 0, .int .i64 0, .slice none 0 0, .slice none 0 0, .slice none 0 0, .slice none 0 0, .slice none 0 0, .slice none 0 0, .slice none 0 0, .slice none 0 0, .slice none 0 0, .slice none 0 0, .int .i64 0, .int .i64 0, .slice none 0 0, .slice none 0 0, .slice none 0 0, .slice none 0 0, .slice none 0 0, .slice none 0 0], .agg #[.int .i64 0, .int .i64 0, .int .i64 0, .int .i64 0, .slice none 0 0, .slice none 0 0, .slice none 0 0, .slice none 0 0, .int .i64 0, .int .i64 0, .slice none 0 0, .slice none 0 0, .slice none 0 0, .slice none 0 0, .slice none 0 0, .slice none 0 0, .slice none 0 0, .slice none 0 0, .slice none 0 0, .slice none 0 0, .int .i64 0, .int .i64 0, .slice none 0 0, .slice none 0 0, .slice none 0 0, .slice none 0 0, .slice none 0 0, .slice none 0 0], .bool false], []⟩ 8 (by kernel_rfl) (by kernel_rfl) (by kernel_rfl)
      (x := ([.agg [.lit (.int .i64 0), .lit (.int .i64 0), .lit (.int .i64 0), .lit (.int .i64 0), .agg [.nil, .nil, .nil, .agg [.nil, .agg [.lit (.int .i64 0), .lit (.int .i64 0), .nil, .nil]], .agg [.nil, .nil, .nil, .nil]], .agg [.nil, .nil, .nil, .agg [.nil, .agg [.lit (.int .i64 0), .lit (.int .i64 0), .nil, .nil]], .agg [.nil, .nil, .nil, .nil]]], .agg [.lit (.int .i64 0), .lit (.int .i64 0), .lit (.int .i64 0), .lit (.int .i64 0), .agg [.nil, .nil, .nil, .agg [.nil, .agg [.lit (.int .i64 0), .lit (.int .i64 0), .nil, .nil]], .agg [.nil, .nil, .nil, .nil]], .agg [.nil, .nil, .nil, .agg [.nil, .agg [.lit (.int .i64 0), .lit (.int .i64 0), .nil, .nil]], .agg [.nil, .nil, .nil, .nil]]], .lit (.bool false)], [], [])) (by kernel_rfl) rfl (by kernel_rfl)) ?_
  intro W base args ds gs before hval hW _ hk _
  exact transformOvers_contract T enc W base args ds gs before hval hW hk

/-- The law TransformOvers. -/
theorem transformOvers_proved : Rows.TransformOversUptoSaid :=
  OpenClaim.holds_of_cond 3 Tryz.f3 rfl rfl rfl rfl rfl rfl rfl ⟨rfl, rfl, rfl, rfl, rfl⟩ rfl rfl rfl rfl rfl (by kernel_rfl) Tryz.func3 (by kernel_rfl)
    (of_decide_eq_true (by kernel_rfl)) (by unfold Func.isWrapper; first | (rw [if_pos (by decide +kernel)]; kernel_rfl) | (rw [if_neg (by decide +kernel)]; exact ⟨rfl, rfl⟩))
    (fun os started H enc _ F => transformOvers_lifted os started H enc F)
end Go.Proofs.YtofkolbnhcckkaaGreat
