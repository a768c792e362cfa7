/-
  The law FormulaShows returns true for any value and any text of the Go program obelus. Conditions: none beside the row's own (the listed package-level variables hold what the program's text lays; the card ties them).
-/
import Derived.Test.YtnoadopmeoohmaaGreatDoorF45
import Derived.Test.YtnoadopmeoohmaaGreatDoorK13
import Derived.Test.YtnoadopmeoohmaaGreatDoorB41
import Derived.Test.YtnoadopmeoohmaaGreatDoorCards
import Derived.Test.YtnoadopmeoohmaaGreatDoorTie
import Derived.ChangeMaps5
namespace Go.Proofs.YtnoadopmeoohmaaGreatDoor
open Go Go.RowKit Go.ChangeShapes Go.WideShapes Go.ChangeAt Go.ChangeMaps
set_option linter.unusedVariables false
set_option linter.unusedSimpArgs false
set_option maxRecDepth 100000 in
theorem formulaShows_contract (T : Type) (enc : TypeId × Value → T) (W : World) (base : Nat) (args : Array Value) (ds gs : List (DataW T)) (before : List MemPlace)
    (hval : ∀ (j : Nat) t v, Tryz.f9.params[j]? = some t → args[j]? = some v → Value.okWide Tryz.prog W .any base t v)
    (hW : DataW.Whole enc Tryz.prog Tryz.f9.params.toList Rows.formulaShowsSpec.vars false W args.toList ds gs before) (hL : laidMet Tryz.prog laidL W) (hS : W.ShapedOpen Tryz.prog) :
    Calls Tryz.prog 9 args W fun e W' => ∃ v, e = .returned v ∧ Rows.formulaShowsSpec.post enc Tryz.prog Tryz.f9 false true false false W args v W' := by
  have hW' := hW
  obtain ⟨p, q, hA0, hV, rfl, hfz, hnd⟩ := hW
  have hA : DataW.TrodAll enc Tryz.prog W 0 (fun _ => true) true Tryz.f9.params.toList args.toList ds p := hA0
  rw [Tryz.params9] at hA hval
  obtain ⟨v0, vs0, d0, ds0, p0, q0, hargs0, rfl, rfl, h0, r0⟩ := trodAll_cons hA
  obtain ⟨v1, vs1, d1, ds1, p1, q1, hargs1, rfl, rfl, h1, r1⟩ := trodAll_cons r0
  obtain ⟨rfl, rfl, rfl⟩ := trodAll_nil r1
  obtain rfl : args = #[v0, v1] := by cases args; simp_all
  obtain ⟨rfl, rfl⟩ := trodVars_none hV
  obtain ⟨x0, rfl, hx0⟩ := arg_val (hval 0 37 v0 rfl rfl) h0
  obtain ⟨s1, rfl, rfl, rfl, w1⟩ := open_string Tryz.underlying9 (hval 1 9 v1 rfl rfl) h1
  obtain ⟨l1, rfl⟩ : ∃ l : List UInt8, s1 = ⟨l.toArray⟩ := ⟨s1.data.toList, by cases s1; simp⟩
  refine (Fn.start (FormulaShows_fn (vars_of hL hS) hx0) (glob_of hL) (size_of hL)).mono fun e W' ⟨v, H', I', he, hbl, hq, _⟩ => ?_
  subst he hq
  exact ⟨_, rfl, law_post hW' rfl (by rw [Tryz.params9]; decide +kernel) (by kernel_rfl) rfl rfl rfl hbl⟩
theorem formulaShows_reads (os : Os) {T : Type} (enc : TypeId × Value → T) : ∃ places, DataW.whole enc Tryz.prog (memW os #[.agg #[.int .i64 0, .int .i64 0, .string ⟨#[]⟩], .string ⟨#[]⟩]) Tryz.f9.params.toList Rows.formulaShowsSpec.vars false (#[.agg #[.int .i64 0, .int .i64 0, .string ⟨#[]⟩], .string ⟨#[]⟩] : Array Value).toList 8 = some ([.agg [.lit (.int .i64 0), .lit (.int .i64 0), .lit (.string [])], .lit (.string [])], [], places) := ⟨[], by kernel_rfl⟩
set_option maxRecDepth 100000 in
set_option maxHeartbeats 2000000 in
theorem formulaShows_lifted (os : Os) (started : os.Started) (T : Type) (enc : TypeId × Value → T) (F : Stop.Interp) :
    ReturnsInHanded {} Tryz.checked os 9 .any ((OpenSpec.ofChange Rows.formulaShowsSpec).preRow enc Tryz.prog Tryz.f9 Rows.formulaShowsRow.domain false Rows.formulaShowsRow.laid) (((OpenSpec.ofChange Rows.formulaShowsSpec).at F).post enc Tryz.prog Tryz.f9 false true false false) := by
  obtain ⟨places, hx⟩ := formulaShows_reads os enc
  refine returnsInHanded_of_row (C := Tryz.checked) (s := OpenSpec.ofChange Rows.formulaShowsSpec) prog_own started (by kernel_rfl) Tryz.func9
    (witness_row_atRef (enc := enc) (C := Tryz.checked) false (laidWorld os) #[.agg #[.int .i64 0, .int .i64 0, .string ⟨#[]⟩], .string ⟨#[]⟩] rfl (by kernel_rfl) (by kernel_rfl) (by kernel_rfl)
      (OpenSpec.preRow_of_cond 8 hx (by kernel_rfl) (fun k hk => by cases hk) (by kernel_rfl) (laid_met os _))) ?_
  intro W base args ds gs before hval hW _ _ _ hL hS _
  exact formulaShows_contract T enc W base args ds gs before hval hW hL hS
theorem formulaShows_said : Rows.FormulaShowsSaid :=
  OpenClaim.holds_of_cond 9 Tryz.f9 rfl rfl rfl rfl rfl rfl rfl ⟨rfl, rfl, rfl, rfl, rfl⟩ rfl rfl rfl rfl rfl (by kernel_rfl) Tryz.func9 (by kernel_rfl)
    (of_decide_eq_true (by kernel_rfl)) (by unfold Func.isWrapper; first | (rw [if_pos (by decide +kernel)]; kernel_rfl) | (rw [if_neg (by decide +kernel)]; exact ⟨rfl, rfl⟩))
    (fun os started H enc _ F => by rw [OpenClaim.pre_eq_preRow]; exact formulaShows_lifted os started H enc F)
theorem formulaShows_plain (f : FuncId) (fn : Func) (hf : Tryz.pinned.checked.prog.funcNamed "obelus/obeluslaw41.FormulaShows" = some f) (hfn : Tryz.pinned.checked.prog.funcs[f]? = some fn) :
    true = Tryz.pinned.checked.prog.looks [] ∧ ∀ (j : Nat) t, fn.params[j]? = some t → Tryz.pinned.checked.prog.wantsStandIn t = false := by
  obtain rfl : f = 9 := Option.some.inj ((show Tryz.prog.funcNamed "obelus/obeluslaw41.FormulaShows" = some 9 by kernel_rfl).symm.trans hf) |>.symm
  obtain rfl : fn = Tryz.f9 := (Option.some.inj (Tryz.func9.symm.trans hfn)).symm
  refine ⟨by kernel_rfl, fun j t ht => ?_⟩
  rw [Tryz.params9] at ht
  have hm := Array.mem_of_getElem? ht
  have hts : t = 37 ∨ t = 9 := by simpa using hm
  rcases hts with rfl | rfl
  · exact (show Tryz.prog.wantsStandIn 37 = false by kernel_rfl)
  · exact (show Tryz.prog.wantsStandIn 9 = false by kernel_rfl)
/-- The card of the law FormulaShows. -/
theorem formulaShows_proved : Rows.FormulaShowsCardSaid :=
  Claim7.holds_tied_plain_at .later [] _ _ _ _ formulaShows_said (fun _ h => by cases h) (by kernel_rfl) (fun _ h => by cases h) formulaShows_row_tie rfl ⟨rfl, rfl⟩ (by kernel_rfl) rfl formulaShows_plain (by kernel_rfl)
end Go.Proofs.YtnoadopmeoohmaaGreatDoor
