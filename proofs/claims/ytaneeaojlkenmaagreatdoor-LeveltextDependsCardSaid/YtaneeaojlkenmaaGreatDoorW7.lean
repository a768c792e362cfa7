/-
  The law LeveltextDepends returns true for any levels and any two arrays of numbers of the Go program obelus. Conditions: none beside the row's own (the listed package-level variables hold what the program's text lays; the card ties them).
-/
import Derived.Test.YtaneeaojlkenmaaGreatDoorL26
import Derived.Test.YtaneeaojlkenmaaGreatDoorK13
import Derived.Test.YtaneeaojlkenmaaGreatDoorB10
import Derived.Test.YtaneeaojlkenmaaGreatDoorCards
import Derived.Test.YtaneeaojlkenmaaGreatDoorTie
import Derived.ChangeMaps5
namespace Go.Proofs.YtaneeaojlkenmaaGreatDoor
open Go Go.RowKit Go.ChangeShapes Go.WideShapes Go.ChangeAt Go.ChangeMaps
set_option linter.unusedVariables false
set_option linter.unusedSimpArgs false
set_option maxRecDepth 100000 in
theorem leveltextDepends_contract (T : Type) (enc : TypeId × Value → T) (W : World) (base : Nat) (args : Array Value) (ds gs : List (DataW T)) (before : List MemPlace)
    (hval : ∀ (j : Nat) t v, Tryz.f8.params[j]? = some t → args[j]? = some v → Value.okWide Tryz.prog W .any base t v)
    (hW : DataW.Whole enc Tryz.prog Tryz.f8.params.toList Rows.leveltextDependsSpec.vars false W args.toList ds gs before) (hL : laidMet Tryz.prog laidL W) (hS : W.ShapedOpen Tryz.prog) :
    Calls Tryz.prog 8 args W fun e W' => ∃ v, e = .returned v ∧ Rows.leveltextDependsSpec.post enc Tryz.prog Tryz.f8 false true false false W args v W' := by
  have hW' := hW
  obtain ⟨p, q, hA0, hV, rfl, hfz, hnd⟩ := hW
  have hA : DataW.TrodAll enc Tryz.prog W 0 (fun _ => true) true Tryz.f8.params.toList args.toList ds p := hA0
  rw [Tryz.params8] at hA hval
  obtain ⟨v0, vs0, d0, ds0, p0, q0, hargs0, rfl, rfl, h0, r0⟩ := trodAll_cons hA
  obtain ⟨v1, vs1, d1, ds1, p1, q1, hargs1, rfl, rfl, h1, r1⟩ := trodAll_cons r0
  obtain ⟨v2, vs2, d2, ds2, p2, q2, hargs2, rfl, rfl, h2, r2⟩ := trodAll_cons r1
  obtain ⟨rfl, rfl, rfl⟩ := trodAll_nil r2
  obtain rfl : args = #[v0, v1, v2] := by cases args; simp_all
  obtain ⟨rfl, rfl⟩ := trodVars_none hV
  obtain ⟨a0, m0, c0, l0, rfl, hx0⟩ := arg_lvs (hval 0 34 v0 rfl rfl) h0
  obtain ⟨l1, rfl, hl1, hw1⟩ := arg_arr Tryz.underlying55 Tryz.underlying3 (by kernel_rfl) (by kernel_rfl) (hval 1 55 v1 rfl rfl) h1
  obtain ⟨l2, rfl, hl2, hw2⟩ := arg_arr Tryz.underlying56 Tryz.underlying3 (by kernel_rfl) (by kernel_rfl) (hval 2 56 v2 rfl rfl) h2
  obtain ⟨e0, e1, rfl⟩ : ∃ e0 e1, l2 = [e0, e1] := by
    match l2, hl2 with
    | [a, b], _ => exact ⟨a, b, rfl⟩
  refine (Fn.start (LeveltextDepends_fn (env_of hL) hx0 hl1 e0 e1) (glob_of hL) (size_of hL)).mono fun e W' ⟨v, H', I', he, hbl, hq, _⟩ => ?_
  subst he hq
  exact ⟨_, rfl, law_post hW' rfl (by rw [Tryz.params8]; decide +kernel) (by kernel_rfl) rfl rfl rfl hbl⟩
theorem leveltextDepends_reads (os : Os) {T : Type} (enc : TypeId × Value → T) : ∃ places, DataW.whole enc Tryz.prog (memW os #[.slice none 0 0, .agg #[.int .i64 0, .int .i64 0, .int .i64 0, .int .i64 0, .int .i64 0, .int .i64 0, .int .i64 0, .int .i64 0, .int .i64 0], .agg #[.int .i64 0, .int .i64 0]]) Tryz.f8.params.toList Rows.leveltextDependsSpec.vars false (#[.slice none 0 0, .agg #[.int .i64 0, .int .i64 0, .int .i64 0, .int .i64 0, .int .i64 0, .int .i64 0, .int .i64 0, .int .i64 0, .int .i64 0], .agg #[.int .i64 0, .int .i64 0]] : Array Value).toList 8 = some ([.nil, .agg [.lit (.int .i64 0), .lit (.int .i64 0), .lit (.int .i64 0), .lit (.int .i64 0), .lit (.int .i64 0), .lit (.int .i64 0), .lit (.int .i64 0), .lit (.int .i64 0), .lit (.int .i64 0)], .agg [.lit (.int .i64 0), .lit (.int .i64 0)]], [], places) := ⟨[], by kernel_rfl⟩
set_option maxRecDepth 100000 in
set_option maxHeartbeats 2000000 in
theorem leveltextDepends_lifted (os : Os) (started : os.Started) (T : Type) (enc : TypeId × Value → T) (F : Stop.Interp) :
    ReturnsInHanded {} Tryz.checked os 8 .any ((OpenSpec.ofChange Rows.leveltextDependsSpec).preRow enc Tryz.prog Tryz.f8 Rows.leveltextDependsRow.domain false Rows.leveltextDependsRow.laid) (((OpenSpec.ofChange Rows.leveltextDependsSpec).at F).post enc Tryz.prog Tryz.f8 false true false false) := by
  obtain ⟨places, hx⟩ := leveltextDepends_reads os enc
  refine returnsInHanded_of_row (C := Tryz.checked) (s := OpenSpec.ofChange Rows.leveltextDependsSpec) prog_own started (by kernel_rfl) Tryz.func8
    (witness_row_atRef (enc := enc) (C := Tryz.checked) false (laidWorld os) #[.slice none 0 0, .agg #[.int .i64 0, .int .i64 0, .int .i64 0, .int .i64 0, .int .i64 0, .int .i64 0, .int .i64 0, .int .i64 0, .int .i64 0], .agg #[.int .i64 0, .int .i64 0]] rfl (by kernel_rfl) (by kernel_rfl) (by kernel_rfl)
      (OpenSpec.preRow_of_cond 8 hx (by kernel_rfl) (fun k hk => by cases hk) (by kernel_rfl) (laid_met os _))) ?_
  intro W base args ds gs before hval hW _ _ _ hL hS _
  exact leveltextDepends_contract T enc W base args ds gs before hval hW hL hS
theorem leveltextDepends_said : Rows.LeveltextDependsSaid :=
  OpenClaim.holds_of_cond 8 Tryz.f8 rfl rfl rfl rfl rfl rfl rfl ⟨rfl, rfl, rfl, rfl, rfl⟩ rfl rfl rfl rfl rfl (by kernel_rfl) Tryz.func8 (by kernel_rfl)
    (of_decide_eq_true (by kernel_rfl)) (by unfold Func.isWrapper; first | (rw [if_pos (by decide +kernel)]; kernel_rfl) | (rw [if_neg (by decide +kernel)]; exact ⟨rfl, rfl⟩))
    (fun os started H enc _ F => by rw [OpenClaim.pre_eq_preRow]; exact leveltextDepends_lifted os started H enc F)
theorem leveltextDepends_plain (f : FuncId) (fn : Func) (hf : Tryz.pinned.checked.prog.funcNamed "obelus/obeluslaw10.LeveltextDepends" = some f) (hfn : Tryz.pinned.checked.prog.funcs[f]? = some fn) :
    false = Tryz.pinned.checked.prog.looks [] ∧ ∀ (j : Nat) t, fn.params[j]? = some t → Tryz.pinned.checked.prog.wantsStandIn t = false := by
  obtain rfl : f = 8 := Option.some.inj ((show Tryz.prog.funcNamed "obelus/obeluslaw10.LeveltextDepends" = some 8 by kernel_rfl).symm.trans hf) |>.symm
  obtain rfl : fn = Tryz.f8 := (Option.some.inj (Tryz.func8.symm.trans hfn)).symm
  refine ⟨by kernel_rfl, fun j t ht => ?_⟩
  rw [Tryz.params8] at ht
  have hm := Array.mem_of_getElem? ht
  have hts : t = 34 ∨ t = 55 ∨ t = 56 := by simpa using hm
  rcases hts with rfl | rfl | rfl
  · exact (show Tryz.prog.wantsStandIn 34 = false by kernel_rfl)
  · exact (show Tryz.prog.wantsStandIn 55 = false by kernel_rfl)
  · exact (show Tryz.prog.wantsStandIn 56 = false by kernel_rfl)
/-- The card of the law LeveltextDepends. -/
theorem leveltextDepends_proved : Rows.LeveltextDependsCardSaid :=
  Claim7.holds_tied_plain_at .later [] _ _ _ _ leveltextDepends_said (fun _ h => by cases h) (by kernel_rfl) (fun _ h => by cases h) leveltextDepends_row_tie rfl ⟨rfl, rfl⟩ (by kernel_rfl) rfl leveltextDepends_plain (by kernel_rfl)
end Go.Proofs.YtaneeaojlkenmaaGreatDoor
