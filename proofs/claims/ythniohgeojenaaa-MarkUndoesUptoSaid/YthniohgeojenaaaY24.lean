/-
  The law MarkUndoes returns true for any head, any revision and any setting of the Go program obelus, and leaves its arguments as they were. Condition: the arguments together hold at most 1048576 values and letters (MarkUndoesUptoSaid).
-/
import Derived.Test.YthniohgeojenaaaS8
import Derived.Test.YthniohgeojenaaaN2
namespace Go.Proofs.Ythniohgeojenaaa
open Go Go.RowKit Go.ChangeShapes Go.WideShapes Go.ChangeAt
set_option linter.unusedVariables false
set_option linter.unusedSimpArgs false

theorem prog_own : ownKnob Try.prog.godebug = none := by kernel_rfl
theorem bulk_all {T : Type} {d0 d1 d2 : DataW T} (hk : Rows.uptoSmall T ([d0, d1, d2] ++ []) = true) : Rows.uptoBulk d0 + Rows.uptoBulk d1 + Rows.uptoBulk d2 ≤ 1048576 := by
  have h := of_decide_eq_true hk
  simp only [List.append_nil, Rows.uptoBulkAll] at h
  omega
set_option maxRecDepth 100000 in
theorem markUndoes_contract (T : Type) (enc : TypeId × Value → T) (W : World) (base : Nat) (args : Array Value) (ds gs : List (DataW T)) (before : List MemPlace)
    (hval : ∀ (j : Nat) t v, Try.f12.params[j]? = some t → args[j]? = some v → Value.okWide Try.prog W .any base t v)
    (hW : DataW.Whole enc Try.prog Try.f12.params.toList Rows.markUndoesSpec.vars false W args.toList ds gs before) (hk : Rows.uptoSmall T (ds ++ gs) = true) :
    Calls Try.prog 12 args W fun e W' => ∃ v, e = .returned v ∧ Rows.markUndoesSpec.post enc Try.prog Try.f12 false true false false W args v W' := by
  have hW' := hW
  obtain ⟨p, q, hA0, hV, rfl, hfz, hnd⟩ := hW
  have hA : DataW.TrodAll enc Try.prog W 0 (fun _ => true) true Try.f12.params.toList args.toList ds p := hA0
  rw [Try.params12] at hA hval
  obtain ⟨v0, vs0, d0, ds0, p0, q0, hargs0, rfl, rfl, h0, r0⟩ := trodAll_cons hA
  obtain ⟨v1, vs1, d1, ds1, p1, q1, hargs1, rfl, rfl, h1, r1⟩ := trodAll_cons r0
  obtain ⟨v2, vs2, d2, ds2, p2, q2, hargs2, rfl, rfl, h2, r2⟩ := trodAll_cons r1
  obtain ⟨rfl, rfl, rfl⟩ := trodAll_nil r2
  obtain rfl : args = #[v0, v1, v2] := by cases args; simp_all
  obtain ⟨rfl, rfl⟩ := trodVars_none hV
  obtain ⟨cs0, fl0, rfl, hx0, hb0⟩ := arg_head (hval 0 28 v0 rfl rfl) h0
  obtain ⟨n1, rfl, rfl, rfl, w1⟩ := open_int Try.underlying3 (hval 1 3 v1 rfl rfl) h1
  have hi1 : -9223372036854775808 ≤ n1 ∧ n1 < 9223372036854775808 := by
    have := w1
    simp [Lit.wf, IntKind.min, IntKind.max, IntKind.signed, IntKind.bits] at this
    omega
  obtain ⟨fs2, rfl⟩ := arg_setting (hval 2 58 v2 rfl rfl) h2
  have hbb := bulk_all hk
  refine (Fn.start (MarkUndoes_fn hx0 (by omega))).mono fun e W' ⟨v, H', I', he, hbl, hq, _⟩ => ?_
  subst he hq
  exact ⟨_, rfl, law_post hW' rfl (by rw [Try.params12]; decide +kernel) (by kernel_rfl) rfl rfl rfl hbl⟩

set_option maxRecDepth 100000 in
theorem markUndoes_lifted (os : Os) (started : os.Started) (T : Type) (enc : TypeId × Value → T) (F : Stop.Interp) :
    ReturnsInHanded {} Try.checked os 12 .any ((Rows.OpenSpec.upto Rows.markUndoesSpec).pre6 enc Try.prog Try.f12 Rows.markUndoesUptoRow.domain false) (((Rows.OpenSpec.upto Rows.markUndoesSpec).at F).post enc Try.prog Try.f12 false true false false) := by
  refine returnsInHanded_of_cond (C := Try.checked) (s := Rows.OpenSpec.upto Rows.markUndoesSpec) (k := Rows.uptoSmall) rfl prog_own started (by kernel_rfl) Try.func12
    (OpenSpec.witness (enc := enc) (C := Try.checked) (s := Rows.OpenSpec.upto Rows.markUndoesSpec) (k := Rows.uptoSmall) rfl false ⟨#[], #[.agg #[.slice none 0 0, .int .i64 0, .int .i64 0, .slice none 0 0, .slice none 0 0], .int .i64 0, .agg #[.int .i64 0, .int .i64 0, .bool false]], []⟩ 8 (by kernel_rfl) (by kernel_rfl) (by kernel_rfl)
      (x := ([.agg [.nil, .agg [.lit (.int .i64 0), .lit (.int .i64 0), .nil, .nil]], .lit (.int .i64 0), .agg [.agg [.lit (.int .i64 0), .lit (.int .i64 0)], .lit (.bool false)]], [], [])) (by kernel_rfl) rfl (by kernel_rfl)) ?_
  intro W base args ds gs before hval hW _ hk _
  exact markUndoes_contract T enc W base args ds gs before hval hW hk

/-- The law MarkUndoes. -/
theorem markUndoes_proved : Rows.MarkUndoesUptoSaid :=
  OpenClaim.holds_of_cond 12 Try.f12 rfl rfl rfl rfl rfl rfl rfl ⟨rfl, rfl, rfl, rfl, rfl⟩ rfl rfl rfl rfl rfl (by kernel_rfl) Try.func12 (by kernel_rfl)
    (of_decide_eq_true (by kernel_rfl)) (by unfold Func.isWrapper; first | (rw [if_pos (by decide +kernel)]; kernel_rfl) | (rw [if_neg (by decide +kernel)]; exact ⟨rfl, rfl⟩))
    (fun os started H enc _ F => markUndoes_lifted os started H enc F)
end Go.Proofs.Ythniohgeojenaaa
