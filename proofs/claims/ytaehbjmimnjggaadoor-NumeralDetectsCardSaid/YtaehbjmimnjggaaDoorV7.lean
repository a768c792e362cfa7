/-
  The law NumeralDetects returns true for any string of the Go program obelus. Conditions: none beside the row's own (the listed package-level variables hold what the program's text lays; the card ties them).
-/
import Derived.Test.YtaehbjmimnjggaaDoorK14
import Derived.Test.YtaehbjmimnjggaaDoorK13
import Derived.Test.YtaehbjmimnjggaaDoorCards
import Derived.Test.YtaehbjmimnjggaaDoorTie
import Derived.ChangeMaps5
namespace Go.Proofs.YtaehbjmimnjggaaDoor
open Go Go.RowKit Go.ChangeShapes Go.WideShapes Go.ChangeAt Go.ChangeMaps
set_option linter.unusedVariables false
set_option linter.unusedSimpArgs false
set_option maxRecDepth 100000 in
theorem numeralDetects_contract (T : Type) (enc : TypeId × Value → T) (W : World) (base : Nat) (args : Array Value) (ds gs : List (DataW T)) (before : List MemPlace)
    (hval : ∀ (j : Nat) t v, Tryd.f9.params[j]? = some t → args[j]? = some v → Value.okWide Tryd.prog W .any base t v)
    (hW : DataW.Whole enc Tryd.prog Tryd.f9.params.toList Rows.numeralDetectsSpec.vars false W args.toList ds gs before) (hL : laidMet Tryd.prog laidL W) :
    Calls Tryd.prog 9 args W fun e W' => ∃ v, e = .returned v ∧ Rows.numeralDetectsSpec.post enc Tryd.prog Tryd.f9 false true false false W args v W' := by
  have hW' := hW
  obtain ⟨p, q, hA0, hV, rfl, hfz, hnd⟩ := hW
  have hA : DataW.TrodAll enc Tryd.prog W 0 (fun _ => true) true Tryd.f9.params.toList args.toList ds p := hA0
  rw [Tryd.params9] at hA hval
  obtain ⟨v0, vs0, d0, ds0, p0, q0, hargs0, rfl, rfl, h0, r0⟩ := trodAll_cons hA
  obtain ⟨rfl, rfl, rfl⟩ := trodAll_nil r0
  obtain rfl : args = #[v0] := by cases args; simp_all
  obtain ⟨rfl, rfl⟩ := trodVars_none hV
  obtain ⟨s0, rfl, rfl, rfl, w0⟩ := open_string Tryd.underlying9 (hval 0 9 v0 rfl rfl) h0
  obtain ⟨l0, rfl⟩ : ∃ l : List UInt8, s0 = ⟨l.toArray⟩ := ⟨s0.data.toList, by cases s0; simp⟩
  refine (Fn.start (NumeralDetects_fn (env_of hL) l0) (glob_of hL) (size_of hL)).mono fun e W' ⟨v, H', I', he, hbl, hq, _⟩ => ?_
  subst he hq
  exact ⟨_, rfl, law_post hW' rfl (by rw [Tryd.params9]; decide +kernel) (by kernel_rfl) rfl rfl rfl hbl⟩
theorem numeralDetects_reads (os : Os) {T : Type} (enc : TypeId × Value → T) : ∃ places, DataW.whole enc Tryd.prog (memW os #[.string ⟨#[]⟩]) Tryd.f9.params.toList Rows.numeralDetectsSpec.vars false (#[.string ⟨#[]⟩] : Array Value).toList 8 = some ([.lit (.string [])], [], places) := ⟨[], by kernel_rfl⟩
set_option maxRecDepth 100000 in
set_option maxHeartbeats 2000000 in
theorem numeralDetects_lifted (os : Os) (started : os.Started) (T : Type) (enc : TypeId × Value → T) (F : Stop.Interp) :
    ReturnsInHanded {} Tryd.checked os 9 .any ((OpenSpec.ofChange Rows.numeralDetectsSpec).preRow enc Tryd.prog Tryd.f9 Rows.numeralDetectsRow.domain false Rows.numeralDetectsRow.laid) (((OpenSpec.ofChange Rows.numeralDetectsSpec).at F).post enc Tryd.prog Tryd.f9 false true false false) := by
  obtain ⟨places, hx⟩ := numeralDetects_reads os enc
  refine returnsInHanded_of_row (C := Tryd.checked) (s := OpenSpec.ofChange Rows.numeralDetectsSpec) prog_own started (by kernel_rfl) Tryd.func9
    (witness_row_atRef (enc := enc) (C := Tryd.checked) false (laidWorld os) #[.string ⟨#[]⟩] rfl (by kernel_rfl) (by kernel_rfl) (by kernel_rfl)
      (OpenSpec.preRow_of_cond 8 hx (by kernel_rfl) (fun k hk => by cases hk) (by kernel_rfl) (laid_met os _))) ?_
  intro W base args ds gs before hval hW _ _ _ hL _ _
  exact numeralDetects_contract T enc W base args ds gs before hval hW hL
theorem numeralDetects_said : Rows.NumeralDetectsSaid :=
  OpenClaim.holds_of_cond 9 Tryd.f9 rfl rfl rfl rfl rfl rfl rfl ⟨rfl, rfl, rfl, rfl, rfl⟩ rfl rfl rfl rfl rfl (by kernel_rfl) Tryd.func9 (by kernel_rfl)
    (of_decide_eq_true (by kernel_rfl)) (by unfold Func.isWrapper; first | (rw [if_pos (by decide +kernel)]; kernel_rfl) | (rw [if_neg (by decide +kernel)]; exact ⟨rfl, rfl⟩))
    (fun os started H enc _ F => by rw [OpenClaim.pre_eq_preRow]; exact numeralDetects_lifted os started H enc F)
theorem numeralDetects_plain (f : FuncId) (fn : Func) (hf : Tryd.pinned.checked.prog.funcNamed "obelus/obeluslaw09.NumeralDetects" = some f) (hfn : Tryd.pinned.checked.prog.funcs[f]? = some fn) :
    false = Tryd.pinned.checked.prog.looks [] ∧ ∀ (j : Nat) t, fn.params[j]? = some t → Tryd.pinned.checked.prog.wantsStandIn t = false := by
  obtain rfl : f = 9 := Option.some.inj ((show Tryd.prog.funcNamed "obelus/obeluslaw09.NumeralDetects" = some 9 by kernel_rfl).symm.trans hf) |>.symm
  obtain rfl : fn = Tryd.f9 := (Option.some.inj (Tryd.func9.symm.trans hfn)).symm
  refine ⟨by kernel_rfl, fun j t ht => ?_⟩
  rw [Tryd.params9] at ht
  have hm := Array.mem_of_getElem? ht
  have ht39 : t = 3 ∨ t = 9 := by
    simp at hm
    first
      | exact .inl hm
      | exact .inr hm
      | exact hm
  rcases ht39 with rfl | rfl
  · exact (show Tryd.prog.wantsStandIn 3 = false by kernel_rfl)
  · exact (show Tryd.prog.wantsStandIn 9 = false by kernel_rfl)
/-- The card of the law NumeralDetects. -/
theorem numeralDetects_proved : Rows.NumeralDetectsCardSaid :=
  Claim7.holds_tied_plain_at .later [] _ _ _ _ numeralDetects_said (fun _ h => by cases h) (by kernel_rfl) (fun _ h => by cases h) numeralDetects_row_tie rfl ⟨rfl, rfl⟩ (by kernel_rfl) rfl numeralDetects_plain (by kernel_rfl)
end Go.Proofs.YtaehbjmimnjggaaDoor
