/-
  The law FormulaOperators returns true for any two integers of the Go program obelus. Conditions: none beside the row's own (the listed package-level variables hold what the program's text lays; the card ties them).
-/
import Derived.Test.YtnoadopmeoohmaaGreatDoorF39
import Derived.Test.YtnoadopmeoohmaaGreatDoorK13
import Derived.Test.YtnoadopmeoohmaaGreatDoorCards
import Derived.Test.YtnoadopmeoohmaaGreatDoorTie
import Derived.ChangeMaps5
namespace Go.Proofs.YtnoadopmeoohmaaGreatDoor
open Go Go.RowKit Go.ChangeShapes Go.WideShapes Go.ChangeAt Go.ChangeMaps
set_option linter.unusedVariables false
set_option linter.unusedSimpArgs false
set_option maxRecDepth 100000 in
theorem formulaOperators_contract (T : Type) (enc : TypeId × Value → T) (W : World) (base : Nat) (args : Array Value) (ds gs : List (DataW T)) (before : List MemPlace)
    (hval : ∀ (j : Nat) t v, Tryz.f6.params[j]? = some t → args[j]? = some v → Value.okWide Tryz.prog W .any base t v)
    (hW : DataW.Whole enc Tryz.prog Tryz.f6.params.toList Rows.formulaOperatorsSpec.vars false W args.toList ds gs before) (hL : laidMet Tryz.prog laidL W) (hS : W.ShapedOpen Tryz.prog) :
    Calls Tryz.prog 6 args W fun e W' => ∃ v, e = .returned v ∧ Rows.formulaOperatorsSpec.post enc Tryz.prog Tryz.f6 false true false false W args v W' := by
  have hW' := hW
  obtain ⟨p, q, hA0, hV, rfl, hfz, hnd⟩ := hW
  have hA : DataW.TrodAll enc Tryz.prog W 0 (fun _ => true) true Tryz.f6.params.toList args.toList ds p := hA0
  rw [Tryz.params6] at hA hval
  obtain ⟨v0, vs0, d0, ds0, p0, q0, hargs0, rfl, rfl, h0, r0⟩ := trodAll_cons hA
  obtain ⟨v1, vs1, d1, ds1, p1, q1, hargs1, rfl, rfl, h1, r1⟩ := trodAll_cons r0
  obtain ⟨rfl, rfl, rfl⟩ := trodAll_nil r1
  obtain rfl : args = #[v0, v1] := by cases args; simp_all
  obtain ⟨rfl, rfl⟩ := trodVars_none hV
  obtain ⟨n0, rfl, rfl, rfl, w0⟩ := open_int Tryz.underlying3 (hval 0 3 v0 rfl rfl) h0
  have hi0 : -9223372036854775808 ≤ n0 ∧ n0 < 9223372036854775808 := by
    have := w0
    simp [Lit.wf, IntKind.min, IntKind.max, IntKind.signed, IntKind.bits] at this
    omega
  obtain ⟨n1, rfl, rfl, rfl, w1⟩ := open_int Tryz.underlying3 (hval 1 3 v1 rfl rfl) h1
  have hi1 : -9223372036854775808 ≤ n1 ∧ n1 < 9223372036854775808 := by
    have := w1
    simp [Lit.wf, IntKind.min, IntKind.max, IntKind.signed, IntKind.bits] at this
    omega
  refine (Fn.start (FormulaOperators_fn (vars_of hL hS)) (glob_of hL) (size_of hL)).mono fun e W' ⟨v, H', I', he, hbl, hq, _⟩ => ?_
  subst he hq
  exact ⟨_, rfl, law_post hW' rfl (by rw [Tryz.params6]; decide +kernel) (by kernel_rfl) rfl rfl rfl hbl⟩
theorem formulaOperators_reads (os : Os) {T : Type} (enc : TypeId × Value → T) : ∃ places, DataW.whole enc Tryz.prog (memW os #[.int .i64 0, .int .i64 0]) Tryz.f6.params.toList Rows.formulaOperatorsSpec.vars false (#[.int .i64 0, .int .i64 0] : Array Value).toList 8 = some ([.lit (.int .i64 0), .lit (.int .i64 0)], [], places) := ⟨[], by kernel_rfl⟩
set_option maxRecDepth 100000 in
set_option maxHeartbeats 2000000 in
theorem formulaOperators_lifted (os : Os) (started : os.Started) (T : Type) (enc : TypeId × Value → T) (F : Stop.Interp) :
    ReturnsInHanded {} Tryz.checked os 6 .any ((OpenSpec.ofChange Rows.formulaOperatorsSpec).preRow enc Tryz.prog Tryz.f6 Rows.formulaOperatorsRow.domain false Rows.formulaOperatorsRow.laid) (((OpenSpec.ofChange Rows.formulaOperatorsSpec).at F).post enc Tryz.prog Tryz.f6 false true false false) := by
  obtain ⟨places, hx⟩ := formulaOperators_reads os enc
  refine returnsInHanded_of_row (C := Tryz.checked) (s := OpenSpec.ofChange Rows.formulaOperatorsSpec) prog_own started (by kernel_rfl) Tryz.func6
    (witness_row_atRef (enc := enc) (C := Tryz.checked) false (laidWorld os) #[.int .i64 0, .int .i64 0] rfl (by kernel_rfl) (by kernel_rfl) (by kernel_rfl)
      (OpenSpec.preRow_of_cond 8 hx (by kernel_rfl) (fun k hk => by cases hk) (by kernel_rfl) (laid_met os _))) ?_
  intro W base args ds gs before hval hW _ _ _ hL hS _
  exact formulaOperators_contract T enc W base args ds gs before hval hW hL hS
theorem formulaOperators_said : Rows.FormulaOperatorsSaid :=
  OpenClaim.holds_of_cond 6 Tryz.f6 rfl rfl rfl rfl rfl rfl rfl ⟨rfl, rfl, rfl, rfl, rfl⟩ rfl rfl rfl rfl rfl (by kernel_rfl) Tryz.func6 (by kernel_rfl)
    (of_decide_eq_true (by kernel_rfl)) (by unfold Func.isWrapper; first | (rw [if_pos (by decide +kernel)]; kernel_rfl) | (rw [if_neg (by decide +kernel)]; exact ⟨rfl, rfl⟩))
    (fun os started H enc _ F => by rw [OpenClaim.pre_eq_preRow]; exact formulaOperators_lifted os started H enc F)
theorem formulaOperators_plain (f : FuncId) (fn : Func) (hf : Tryz.pinned.checked.prog.funcNamed "obelus/obeluslaw41.FormulaOperators" = some f) (hfn : Tryz.pinned.checked.prog.funcs[f]? = some fn) :
    true = Tryz.pinned.checked.prog.looks [] ∧ ∀ (j : Nat) t, fn.params[j]? = some t → Tryz.pinned.checked.prog.wantsStandIn t = false := by
  obtain rfl : f = 6 := Option.some.inj ((show Tryz.prog.funcNamed "obelus/obeluslaw41.FormulaOperators" = some 6 by kernel_rfl).symm.trans hf) |>.symm
  obtain rfl : fn = Tryz.f6 := (Option.some.inj (Tryz.func6.symm.trans hfn)).symm
  refine ⟨by kernel_rfl, fun j t ht => ?_⟩
  rw [Tryz.params6] at ht
  have hm := Array.mem_of_getElem? ht
  have hts : t = 3 := by simpa using hm
  subst hts
  exact (show Tryz.prog.wantsStandIn 3 = false by kernel_rfl)
/-- The card of the law FormulaOperators. -/
theorem formulaOperators_proved : Rows.FormulaOperatorsCardSaid :=
  Claim7.holds_tied_plain_at .later [] _ _ _ _ formulaOperators_said (fun _ h => by cases h) (by kernel_rfl) (fun _ h => by cases h) formulaOperators_row_tie rfl ⟨rfl, rfl⟩ (by kernel_rfl) rfl formulaOperators_plain (by kernel_rfl)
end Go.Proofs.YtnoadopmeoohmaaGreatDoor
