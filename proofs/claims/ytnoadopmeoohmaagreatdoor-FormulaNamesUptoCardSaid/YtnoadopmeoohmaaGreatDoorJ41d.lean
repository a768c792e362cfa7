/-
  The law FormulaNames returns true for any expression and any bindings (together at most 1048576 values and letters) of the Go program obelus. Conditions: none beside the row's own (the listed package-level variables hold what the program's text lays; the card ties them).
-/
import Derived.Test.YtnoadopmeoohmaaGreatDoorF52
import Derived.Test.YtnoadopmeoohmaaGreatDoorK13
import Derived.Test.YtnoadopmeoohmaaGreatDoorB41
import Derived.Test.YtnoadopmeoohmaaGreatDoorCards
import Derived.Test.YtnoadopmeoohmaaGreatDoorTie
import Derived.ChangeMaps5
namespace Go.Proofs.YtnoadopmeoohmaaGreatDoor
open Go Go.RowKit Go.ChangeShapes Go.WideShapes Go.ChangeAt Go.ChangeMaps
set_option linter.unusedVariables false
set_option linter.unusedSimpArgs false
set_option maxRecDepth 100000 in
theorem formulaNames_contract (T : Type) (enc : TypeId × Value → T) (W : World) (base : Nat) (args : Array Value) (ds gs : List (DataW T)) (before : List MemPlace)
    (hval : ∀ (j : Nat) t v, Tryz.f11.params[j]? = some t → args[j]? = some v → Value.okWide Tryz.prog W .any base t v)
    (hW : DataW.Whole enc Tryz.prog Tryz.f11.params.toList Rows.formulaNamesSpec.vars false W args.toList ds gs before) (hL : laidMet Tryz.prog laidL W) (hS : W.ShapedOpen Tryz.prog) (hk : Rows.uptoSmall T (ds ++ gs) = true) :
    Calls Tryz.prog 11 args W fun e W' => ∃ v, e = .returned v ∧ Rows.formulaNamesSpec.post enc Tryz.prog Tryz.f11 false true false false W args v W' := by
  have hW' := hW
  obtain ⟨p, q, hA0, hV, rfl, hfz, hnd⟩ := hW
  have hA : DataW.TrodAll enc Tryz.prog W 0 (fun _ => true) true Tryz.f11.params.toList args.toList ds p := hA0
  rw [Tryz.params11] at hA hval
  obtain ⟨v0, vs0, d0, ds0, p0, q0, hargs0, rfl, rfl, h0, r0⟩ := trodAll_cons hA
  obtain ⟨v1, vs1, d1, ds1, p1, q1, hargs1, rfl, rfl, h1, r1⟩ := trodAll_cons r0
  obtain ⟨rfl, rfl, rfl⟩ := trodAll_nil r1
  obtain rfl : args = #[v0, v1] := by cases args; simp_all
  obtain ⟨rfl, rfl⟩ := trodVars_none hV
  have hbb := of_decide_eq_true hk
  simp only [List.append_nil, List.nil_append, List.cons_append, Rows.uptoBulkAll] at hbb
  obtain ⟨cs0, x0, rfl, hx0, hm0⟩ := arg_node (hval 0 24 v0 rfl rfl) h0
  obtain ⟨a1, m1, c1, l1, rfl, hx1, hn1, hE1⟩ := arg_env (hval 1 40 v1 rfl rfl) h1 (by omega)
  refine (Fn.start (FormulaNames_fn hx0 (by omega) hx1 (by omega) hE1 (vars_of hL hS)) (glob_of hL) (size_of hL)).mono fun e W' ⟨v, H', I', he, hbl, hq, _⟩ => ?_
  subst he hq
  exact ⟨_, rfl, law_post hW' rfl (by rw [Tryz.params11]; decide +kernel) (by kernel_rfl) rfl rfl rfl hbl⟩
theorem formulaNames_reads (os : Os) {T : Type} (enc : TypeId × Value → T) : ∃ places, DataW.whole enc Tryz.prog (memW os #[.agg #[.int .i64 0, .int .i64 0, .string ⟨#[]⟩, .slice none 0 0], .slice none 0 0]) Tryz.f11.params.toList Rows.formulaNamesSpec.vars false (#[.agg #[.int .i64 0, .int .i64 0, .string ⟨#[]⟩, .slice none 0 0], .slice none 0 0] : Array Value).toList 8 = some ([.agg [.lit (.int .i64 0), .lit (.int .i64 0), .lit (.string []), .nil], .nil], [], places) := ⟨[], by kernel_rfl⟩
set_option maxRecDepth 100000 in
set_option maxHeartbeats 2000000 in
theorem formulaNames_lifted (os : Os) (started : os.Started) (T : Type) (enc : TypeId × Value → T) (F : Stop.Interp) :
    ReturnsInHanded {} Tryz.checked os 11 .any ((Rows.OpenSpec.upto Rows.formulaNamesSpec).preRow enc Tryz.prog Tryz.f11 Rows.formulaNamesUptoRow.domain false Rows.formulaNamesUptoRow.laid) (((Rows.OpenSpec.upto Rows.formulaNamesSpec).at F).post enc Tryz.prog Tryz.f11 false true false false) := by
  obtain ⟨places, hx⟩ := formulaNames_reads os enc
  refine returnsInHanded_of_row (C := Tryz.checked) (s := Rows.OpenSpec.upto Rows.formulaNamesSpec) prog_own started (by kernel_rfl) Tryz.func11
    (witness_row_atRef (enc := enc) (C := Tryz.checked) false (laidWorld os) #[.agg #[.int .i64 0, .int .i64 0, .string ⟨#[]⟩, .slice none 0 0], .slice none 0 0] rfl (by kernel_rfl) (by kernel_rfl) (by kernel_rfl)
      (OpenSpec.preRow_of_cond 8 hx (by kernel_rfl) (fun k hk => by cases hk; kernel_rfl) (by kernel_rfl) (laid_met os _))) ?_
  intro W base args ds gs before hval hW _ hcond _ hL hS _
  exact formulaNames_contract T enc W base args ds gs before hval hW hL hS (hcond _ rfl)
theorem formulaNames_said : Rows.FormulaNamesUptoSaid :=
  OpenClaim.holds_of_cond 11 Tryz.f11 rfl rfl rfl rfl rfl rfl rfl ⟨rfl, rfl, rfl, rfl, rfl⟩ rfl rfl rfl rfl rfl (by kernel_rfl) Tryz.func11 (by kernel_rfl)
    (of_decide_eq_true (by kernel_rfl)) (by unfold Func.isWrapper; first | (rw [if_pos (by decide +kernel)]; kernel_rfl) | (rw [if_neg (by decide +kernel)]; exact ⟨rfl, rfl⟩))
    (fun os started H enc _ F => by rw [OpenClaim.pre_eq_preRow]; exact formulaNames_lifted os started H enc F)
theorem formulaNames_plain (f : FuncId) (fn : Func) (hf : Tryz.pinned.checked.prog.funcNamed "obelus/obeluslaw41.FormulaNames" = some f) (hfn : Tryz.pinned.checked.prog.funcs[f]? = some fn) :
    true = Tryz.pinned.checked.prog.looks [] ∧ ∀ (j : Nat) t, fn.params[j]? = some t → Tryz.pinned.checked.prog.wantsStandIn t = false := by
  obtain rfl : f = 11 := Option.some.inj ((show Tryz.prog.funcNamed "obelus/obeluslaw41.FormulaNames" = some 11 by kernel_rfl).symm.trans hf) |>.symm
  obtain rfl : fn = Tryz.f11 := (Option.some.inj (Tryz.func11.symm.trans hfn)).symm
  refine ⟨by kernel_rfl, fun j t ht => ?_⟩
  rw [Tryz.params11] at ht
  have hm := Array.mem_of_getElem? ht
  have hts : t = 24 ∨ t = 40 := by simpa using hm
  rcases hts with rfl | rfl
  · exact (show Tryz.prog.wantsStandIn 24 = false by kernel_rfl)
  · exact (show Tryz.prog.wantsStandIn 40 = false by kernel_rfl)
/-- The card of the law FormulaNames. -/
theorem formulaNames_proved : Rows.FormulaNamesUptoCardSaid :=
  Claim7.holds_tied_plain_at .later [] _ _ _ _ formulaNames_said (fun _ h => by cases h) (by kernel_rfl) (fun _ h => by cases h) formulaNamesUpto_row_tie rfl ⟨rfl, rfl⟩ (by kernel_rfl) rfl formulaNames_plain (by kernel_rfl)
end Go.Proofs.YtnoadopmeoohmaaGreatDoor
