/-
  The law LeveltextPrints returns true for any parts of the Go program obelus. Conditions: none beside the row's own (the listed package-level variables hold what the program's text lays; the card ties them).
-/
import Derived.Test.YtaneeaojlkenmaaGreatDoorL28
import Derived.Test.YtaneeaojlkenmaaGreatDoorK13
import Derived.Test.YtaneeaojlkenmaaGreatDoorB10
import Derived.Test.YtaneeaojlkenmaaGreatDoorCards
import Derived.Test.YtaneeaojlkenmaaGreatDoorTie
import Derived.ChangeMaps5
namespace Go.Proofs.YtaneeaojlkenmaaGreatDoor
open Go Go.RowKit Go.ChangeShapes Go.WideShapes Go.ChangeAt Go.ChangeMaps
set_option linter.unusedVariables false
set_option linter.unusedSimpArgs false
set_option maxRecDepth 100000 in
theorem leveltextPrints_contract (T : Type) (enc : TypeId × Value → T) (W : World) (base : Nat) (args : Array Value) (ds gs : List (DataW T)) (before : List MemPlace)
    (hval : ∀ (j : Nat) t v, Tryz.f10.params[j]? = some t → args[j]? = some v → Value.okWide Tryz.prog W .any base t v)
    (hW : DataW.Whole enc Tryz.prog Tryz.f10.params.toList Rows.leveltextPrintsSpec.vars false W args.toList ds gs before) (hL : laidMet Tryz.prog laidL W) (hS : W.ShapedOpen Tryz.prog) :
    Calls Tryz.prog 10 args W fun e W' => ∃ v, e = .returned v ∧ Rows.leveltextPrintsSpec.post enc Tryz.prog Tryz.f10 false true false false W args v W' := by
  have hW' := hW
  obtain ⟨p, q, hA0, hV, rfl, hfz, hnd⟩ := hW
  have hA : DataW.TrodAll enc Tryz.prog W 0 (fun _ => true) true Tryz.f10.params.toList args.toList ds p := hA0
  rw [Tryz.params10] at hA hval
  obtain ⟨v0, vs0, d0, ds0, p0, q0, hargs0, rfl, rfl, h0, r0⟩ := trodAll_cons hA
  obtain ⟨rfl, rfl, rfl⟩ := trodAll_nil r0
  obtain rfl : args = #[v0] := by cases args; simp_all
  obtain ⟨rfl, rfl⟩ := trodVars_none hV
  obtain ⟨a0, m0, c0, l0, rfl, hx0, hv0⟩ := arg_pts (hval 0 23 v0 rfl rfl) h0
  refine (Fn.start (LeveltextPrints_fn (env_of hL) (max_of hS) hx0 hv0) (glob_of hL) (size_of hL)).mono fun e W' ⟨v, H', I', he, hbl, hq, _⟩ => ?_
  subst he hq
  exact ⟨_, rfl, law_post hW' rfl (by rw [Tryz.params10]; decide +kernel) (by kernel_rfl) rfl rfl rfl hbl⟩
theorem leveltextPrints_reads (os : Os) {T : Type} (enc : TypeId × Value → T) : ∃ places, DataW.whole enc Tryz.prog (memW os #[.slice none 0 0]) Tryz.f10.params.toList Rows.leveltextPrintsSpec.vars false (#[.slice none 0 0] : Array Value).toList 8 = some ([.nil], [], places) := ⟨[], by kernel_rfl⟩
set_option maxRecDepth 100000 in
set_option maxHeartbeats 2000000 in
theorem leveltextPrints_lifted (os : Os) (started : os.Started) (T : Type) (enc : TypeId × Value → T) (F : Stop.Interp) :
    ReturnsInHanded {} Tryz.checked os 10 .any ((OpenSpec.ofChange Rows.leveltextPrintsSpec).preRow enc Tryz.prog Tryz.f10 Rows.leveltextPrintsRow.domain false Rows.leveltextPrintsRow.laid) (((OpenSpec.ofChange Rows.leveltextPrintsSpec).at F).post enc Tryz.prog Tryz.f10 false true false false) := by
  obtain ⟨places, hx⟩ := leveltextPrints_reads os enc
  refine returnsInHanded_of_row (C := Tryz.checked) (s := OpenSpec.ofChange Rows.leveltextPrintsSpec) prog_own started (by kernel_rfl) Tryz.func10
    (witness_row_atRef (enc := enc) (C := Tryz.checked) false (laidWorld os) #[.slice none 0 0] rfl (by kernel_rfl) (by kernel_rfl) (by kernel_rfl)
      (OpenSpec.preRow_of_cond 8 hx (by kernel_rfl) (fun k hk => by cases hk) (by kernel_rfl) (laid_met os _))) ?_
  intro W base args ds gs before hval hW _ _ _ hL hS _
  exact leveltextPrints_contract T enc W base args ds gs before hval hW hL hS
theorem leveltextPrints_said : Rows.LeveltextPrintsSaid :=
  OpenClaim.holds_of_cond 10 Tryz.f10 rfl rfl rfl rfl rfl rfl rfl ⟨rfl, rfl, rfl, rfl, rfl⟩ rfl rfl rfl rfl rfl (by kernel_rfl) Tryz.func10 (by kernel_rfl)
    (of_decide_eq_true (by kernel_rfl)) (by unfold Func.isWrapper; first | (rw [if_pos (by decide +kernel)]; kernel_rfl) | (rw [if_neg (by decide +kernel)]; exact ⟨rfl, rfl⟩))
    (fun os started H enc _ F => by rw [OpenClaim.pre_eq_preRow]; exact leveltextPrints_lifted os started H enc F)
theorem leveltextPrints_plain (f : FuncId) (fn : Func) (hf : Tryz.pinned.checked.prog.funcNamed "obelus/obeluslaw10.LeveltextPrints" = some f) (hfn : Tryz.pinned.checked.prog.funcs[f]? = some fn) :
    false = Tryz.pinned.checked.prog.looks [] ∧ ∀ (j : Nat) t, fn.params[j]? = some t → Tryz.pinned.checked.prog.wantsStandIn t = false := by
  obtain rfl : f = 10 := Option.some.inj ((show Tryz.prog.funcNamed "obelus/obeluslaw10.LeveltextPrints" = some 10 by kernel_rfl).symm.trans hf) |>.symm
  obtain rfl : fn = Tryz.f10 := (Option.some.inj (Tryz.func10.symm.trans hfn)).symm
  refine ⟨by kernel_rfl, fun j t ht => ?_⟩
  rw [Tryz.params10] at ht
  have hm := Array.mem_of_getElem? ht
  have hts : t = 23 := by simpa using hm
  subst hts
  exact (show Tryz.prog.wantsStandIn 23 = false by kernel_rfl)
/-- The card of the law LeveltextPrints. -/
theorem leveltextPrints_proved : Rows.LeveltextPrintsCardSaid :=
  Claim7.holds_tied_plain_at .later [] _ _ _ _ leveltextPrints_said (fun _ h => by cases h) (by kernel_rfl) (fun _ h => by cases h) leveltextPrints_row_tie rfl ⟨rfl, rfl⟩ (by kernel_rfl) rfl leveltextPrints_plain (by kernel_rfl)
end Go.Proofs.YtaneeaojlkenmaaGreatDoor
