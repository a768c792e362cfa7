/-
  The law FormulaReturns returns true for any string of the Go program obelus. Conditions: none beside the row's own (the listed package-level variables hold what the program's text lays; the card ties them).
-/
import Derived.Test.YtnoadopmeoohmaaGreatDoorZ10
import Derived.Test.YtnoadopmeoohmaaGreatDoorZ06
import Derived.HandedShaped
import Derived.Test.YtnoadopmeoohmaaGreatDoorRows
import Derived.Lib.LaidTab
import Derived.LaidLaws
import Derived.Lib.LaidU8
import Derived.WalkKit
import Derived.ProofKit
import Derived.OpenShut
import Derived.JoinedCond
import Derived.ChangeArms
import Derived.ReadAgain
import Derived.Below
import Derived.Deep.DeepHandedRow
import Derived.Deep.DeepWitnessRowRef
import Derived.Lib.LaidIn
import Derived.Test.YtnoadopmeoohmaaGreatDoorZ39
import Derived.Test.YtnoadopmeoohmaaGreatDoorCards
import Derived.Test.YtnoadopmeoohmaaGreatDoorTie
import Derived.ChangeMaps5
/-
  From the readings of the form to the facts of the abstract layer: the listed variables; a witness world.
  A witness world: the listed variables as their initialisers lay them.
-/
namespace Go.Proofs.YtnoadopmeoohmaaGreatDoor
open Go Go.ChangeAt Go.ChangeShapes Go.Lib Go.RowKit Go.WideShapes
set_option linter.unusedVariables false
set_option linter.unusedSimpArgs false
section
open Go.Lib
/-- what all the rows list -/
abbrev laidL : List (String × DataW Unit) := Rows.formulaOperatorsRow.laid
theorem g_pow : Tryz.prog.globalNamed "internal/strconv.uint64pow10" = some 0 := by kernel_rfl
theorem pow_of {W : World} (h : laidMet Tryz.prog laidL W) : Lib.TabIs Tryz.prog W "internal/strconv.uint64pow10" .u64 Lib.pow10Tab := by
  obtain ⟨g, t, cs, fuel, p, hg, hty, hvar, hd⟩ := laidMet.reads h (n := "internal/strconv.uint64pow10") (d := Rows.laid_internal_strconv_uint64pow10) (by unfold laidL Rows.formulaOperatorsRow; simp)
  obtain rfl := Option.some.inj (g_pow.symm.trans hg)
  obtain rfl : 201 = t := Option.some.inj ((show (Tryz.prog.globals[0]?).map (·.type) = some 201 by kernel_rfl).symm.trans hty)
  have e : (Rows.laid_internal_strconv_uint64pow10 : DataW Unit) = tabData .u64 Lib.pow10Tab := by kernel_rfl
  rw [e] at hd
  unfold Lib.TabIs
  rw [hvar, ← cells_of_tab Tryz.underlying201 Tryz.underlying176 (by kernel_rfl) (by kernel_rfl) hd]
theorem glob_of {W : World} (h : laidMet Tryz.prog laidL W) : Glob W := by
  have ht := pow_of h
  unfold Lib.TabIs World.var? at ht
  rw [g_pow] at ht
  simp only [Option.bind_some] at ht
  cases hb : W.heap[0]? with
  | none => rw [hb] at ht; cases ht
  | some o =>
    rw [hb] at ht
    cases o with
    | cells cs T fz =>
      simp only [Option.some.injEq] at ht
      subst ht
      exact ⟨T, fz, hb⟩
    | _ => cases ht
theorem size_of {W : World} (h : laidMet Tryz.prog laidL W) : NG ≤ W.heap.size := by
  obtain ⟨g, t, cs, fuel, p, hg, hty, hvar, hd⟩ := laidMet.reads h (n := "math/bits.deBruijn64tab") (d := Rows.laid_math_bits_deBruijn64tab) (by unfold laidL Rows.formulaOperatorsRow; simp)
  have g7 : Tryz.prog.globalNamed "math/bits.deBruijn64tab" = some 7 := by kernel_rfl
  unfold World.var? at hvar
  rw [g7] at hvar
  simp only [Option.bind_some] at hvar
  rcases Nat.lt_or_ge 7 W.heap.size with h | h
  · exact h
  · rw [Array.getElem?_eq_none h] at hvar
    cases hvar
theorem max_of {W : World} (h : W.ShapedOpen Tryz.prog) : ∃ m : Int, hp W 1 0 = some (.int .i64 m) := by
  obtain ⟨m, hm⟩ := cell_of_shapedOpen_int (g := 1) (t := 3) (zero := #[.int .i64 0]) (k := .i64) h (of_decide_eq_true (by kernel_rfl)) (by kernel_rfl) rfl (by kernel_rfl) (by kernel_rfl) Tryz.underlying3
  exact ⟨m, hp_cell hm rfl⟩
theorem g_range : Tryz.prog.globalNamed "strconv.ErrRange" = some 5 := by kernel_rfl
theorem range_of {W : World} (h : laidMet Tryz.prog laidL W) : ∃ te pe, hp W 5 0 = some (.iface te pe) := by
  obtain ⟨g, t, cs, fuel, p, hg, hty, hvar, hd⟩ := laidMet.reads h (n := "strconv.ErrRange") (d := Rows.laid_strconv_ErrRange) (by unfold laidL Rows.formulaOperatorsRow; simp)
  obtain rfl := Option.some.inj (g_range.symm.trans hg)
  obtain rfl : 124 = t := Option.some.inj ((show (Tryz.prog.globals[5]?).map (·.type) = some 124 by kernel_rfl).symm.trans hty)
  obtain ⟨fuel', u, v, hcs, -, -⟩ := iface_of_trod Tryz.underlying124 hd
  unfold World.var? at hvar
  rw [g_range] at hvar
  simp only [Option.bind_some] at hvar
  cases hb : W.heap[5]? with
  | none => rw [hb] at hvar; cases hvar
  | some o =>
    rw [hb] at hvar
    cases o with
    | cells cs' T fz =>
      simp only [Option.some.injEq] at hvar
      subst hvar
      refine ⟨u, v, hp_cell ?_ rfl⟩
      simp only [World.cell?, hb]
      have : cs'[0]? = cs'.toList[0]? := by simp
      rw [this, hcs]
      rfl
    | _ => cases hvar
theorem vars_of {W : World} (h : laidMet Tryz.prog laidL W) (hS : W.ShapedOpen Tryz.prog) : VarsH (hp W) :=
  ⟨max_of hS, let ⟨te, pe, e⟩ := range_of h; ⟨_, e, .inr ⟨te, pe, rfl⟩⟩⟩
end
theorem prog_own : ownKnob Tryz.prog.godebug = none := by kernel_rfl
def litCells : DataW Unit → Array Value
  | .agg ds => (ds.filterMap fun d => match d with | .lit l => some l.value | _ => Option.none).toArray
  | _ => #[]
noncomputable def laidWorld (os : Os) : World :=
  let N := (World.settled Tryz.prog os).heap.size
  let w0 := World.holding Tryz.prog os ⟨#[.cells #[sv [118, 97, 108, 117, 101, 32, 111, 117, 116, 32, 111, 102, 32, 114, 97, 110, 103, 101]] 227, .cells #[sv [105, 110, 118, 97, 108, 105, 100, 32, 115, 121, 110, 116, 97, 120]] 227], #[], []⟩
  let put (h : Array Obj) (g : Nat) (cs : Array Value) : Array Obj := h.modify g fun
    | .cells _ t frozen => .cells cs t frozen
    | o => o
  let h2 := put w0.heap 0 powCells
  let h3 := put h2 2 (Lib.firstTab.map fun z => Value.int .u8 z).toArray
  let h4 := put h3 3 ((List.range 16).flatMap fun i => [Value.int .u8 (Lib.accLo i), Value.int .u8 (Lib.accHi i)]).toArray
  let h5 := put h4 6 (litCells Rows.laid_math_bits_deBruijn32tab)
  let h6 := put h5 7 (litCells Rows.laid_math_bits_deBruijn64tab)
  let h7 := put h6 5 #[.iface 225 (.pointer (some ⟨N, 0, none⟩))]
  let h8 := put h7 4 #[.iface 225 (.pointer (some ⟨N + 1, 0, none⟩))]
  { w0 with heap := h8 }
noncomputable abbrev N0 : Nat := (World.settled Tryz.prog default).heap.size
noncomputable abbrev memW (os : Os) (args : Array Value) : World := ((laidWorld os).forCall (fun _ _ => 0) ⟨#[], args, []⟩).memory
theorem piece1 (os : Os) (args : Array Value) : LaidIn Tryz.prog (memW os args) [("math/bits.deBruijn32tab", Rows.laid_math_bits_deBruijn32tab), ("math/bits.deBruijn64tab", Rows.laid_math_bits_deBruijn64tab), ("internal/strconv.uint64pow10", Rows.laid_internal_strconv_uint64pow10), ("unicode/utf8.acceptRanges", Rows.laid_unicode_utf8_acceptRanges), ("strconv.ErrRange", Rows.laid_strconv_ErrRange), ("strconv.ErrSyntax", Rows.laid_strconv_ErrSyntax)] [6, 7, 0, 3, 5, N0, 4, N0 + 1] :=
  LaidIn.of_run _ 10 (by kernel_rfl) (by kernel_rfl) (by kernel_rfl) (by kernel_rfl)
theorem piece3 (os : Os) (args : Array Value) : LaidIn Tryz.prog (memW os args) [("unicode/utf8.first", Rows.laid_unicode_utf8_first)] [2] :=
  LaidIn.of_run _ 10 (by kernel_rfl) (by kernel_rfl) (by kernel_rfl) (by kernel_rfl)
set_option maxRecDepth 1000000 in
theorem laid_met (os : Os) (args : Array Value) : laidMet Tryz.prog laidL (memW os args) :=
  ((piece1 os args).append (piece3 os args) (by kernel_rfl)).met
end Go.Proofs.YtnoadopmeoohmaaGreatDoor
namespace Go.Proofs.YtnoadopmeoohmaaGreatDoor
open Go Go.RowKit Go.ChangeShapes Go.WideShapes Go.ChangeAt Go.ChangeMaps
set_option linter.unusedVariables false
set_option linter.unusedSimpArgs false
set_option maxRecDepth 100000 in
theorem formulaReturns_contract (T : Type) (enc : TypeId × Value → T) (W : World) (base : Nat) (args : Array Value) (ds gs : List (DataW T)) (before : List MemPlace)
    (hval : ∀ (j : Nat) t v, Tryz.f10.params[j]? = some t → args[j]? = some v → Value.okWide Tryz.prog W .any base t v)
    (hW : DataW.Whole enc Tryz.prog Tryz.f10.params.toList Rows.formulaReturnsSpec.vars false W args.toList ds gs before) (hL : laidMet Tryz.prog laidL W) (hS : W.ShapedOpen Tryz.prog) :
    Calls Tryz.prog 10 args W fun e W' => ∃ v, e = .returned v ∧ Rows.formulaReturnsSpec.post enc Tryz.prog Tryz.f10 false true false false W args v W' := by
  have hW' := hW
  obtain ⟨p, q, hA0, hV, rfl, hfz, hnd⟩ := hW
  have hA : DataW.TrodAll enc Tryz.prog W 0 (fun _ => true) true Tryz.f10.params.toList args.toList ds p := hA0
  rw [Tryz.params10] at hA hval
  obtain ⟨v0, vs0, d0, ds0, p0, q0, hargs0, rfl, rfl, h0, r0⟩ := trodAll_cons hA
  obtain ⟨rfl, rfl, rfl⟩ := trodAll_nil r0
  obtain rfl : args = #[v0] := by cases args; simp_all
  obtain ⟨rfl, rfl⟩ := trodVars_none hV
  obtain ⟨s0, rfl, rfl, rfl, w0⟩ := open_string Tryz.underlying9 (hval 0 9 v0 rfl rfl) h0
  obtain ⟨l0, rfl⟩ : ∃ l : List UInt8, s0 = ⟨l.toArray⟩ := ⟨s0.data.toList, by cases s0; simp⟩
  refine (Fn.start (FormulaReturns_fn (vars_of hL hS)) (glob_of hL) (size_of hL)).mono fun e W' ⟨v, H', I', he, hbl, hq, _⟩ => ?_
  subst he hq
  exact ⟨_, rfl, law_post hW' rfl (by rw [Tryz.params10]; decide +kernel) (by kernel_rfl) rfl rfl rfl hbl⟩
theorem formulaReturns_reads (os : Os) {T : Type} (enc : TypeId × Value → T) : ∃ places, DataW.whole enc Tryz.prog (memW os #[.string ⟨#[]⟩]) Tryz.f10.params.toList Rows.formulaReturnsSpec.vars false (#[.string ⟨#[]⟩] : Array Value).toList 8 = some ([.lit (.string [])], [], places) := ⟨[], by kernel_rfl⟩
set_option maxRecDepth 100000 in
set_option maxHeartbeats 2000000 in
theorem formulaReturns_lifted (os : Os) (started : os.Started) (T : Type) (enc : TypeId × Value → T) (F : Stop.Interp) :
    ReturnsInHanded {} Tryz.checked os 10 .any ((OpenSpec.ofChange Rows.formulaReturnsSpec).preRow enc Tryz.prog Tryz.f10 Rows.formulaReturnsRow.domain false Rows.formulaReturnsRow.laid) (((OpenSpec.ofChange Rows.formulaReturnsSpec).at F).post enc Tryz.prog Tryz.f10 false true false false) := by
  obtain ⟨places, hx⟩ := formulaReturns_reads os enc
  refine returnsInHanded_of_row (C := Tryz.checked) (s := OpenSpec.ofChange Rows.formulaReturnsSpec) prog_own started (by kernel_rfl) Tryz.func10
    (witness_row_atRef (enc := enc) (C := Tryz.checked) false (laidWorld os) #[.string ⟨#[]⟩] rfl (by kernel_rfl) (by kernel_rfl) (by kernel_rfl)
      (OpenSpec.preRow_of_cond 8 hx (by kernel_rfl) (fun k hk => by cases hk) (by kernel_rfl) (laid_met os _))) ?_
  intro W base args ds gs before hval hW _ _ _ hL hS _
  exact formulaReturns_contract T enc W base args ds gs before hval hW hL hS
theorem formulaReturns_said : Rows.FormulaReturnsSaid :=
  OpenClaim.holds_of_cond 10 Tryz.f10 rfl rfl rfl rfl rfl rfl rfl ⟨rfl, rfl, rfl, rfl, rfl⟩ rfl rfl rfl rfl rfl (by kernel_rfl) Tryz.func10 (by kernel_rfl)
    (of_decide_eq_true (by kernel_rfl)) (by unfold Func.isWrapper; first | (rw [if_pos (by decide +kernel)]; kernel_rfl) | (rw [if_neg (by decide +kernel)]; exact ⟨rfl, rfl⟩))
    (fun os started H enc _ F => by rw [OpenClaim.pre_eq_preRow]; exact formulaReturns_lifted os started H enc F)
theorem formulaReturns_plain (f : FuncId) (fn : Func) (hf : Tryz.pinned.checked.prog.funcNamed "obelus/obeluslaw41.FormulaReturns" = some f) (hfn : Tryz.pinned.checked.prog.funcs[f]? = some fn) :
    true = Tryz.pinned.checked.prog.looks [] ∧ ∀ (j : Nat) t, fn.params[j]? = some t → Tryz.pinned.checked.prog.wantsStandIn t = false := by
  obtain rfl : f = 10 := Option.some.inj ((show Tryz.prog.funcNamed "obelus/obeluslaw41.FormulaReturns" = some 10 by kernel_rfl).symm.trans hf) |>.symm
  obtain rfl : fn = Tryz.f10 := (Option.some.inj (Tryz.func10.symm.trans hfn)).symm
  refine ⟨by kernel_rfl, fun j t ht => ?_⟩
  rw [Tryz.params10] at ht
  have hm := Array.mem_of_getElem? ht
  have hts : t = 9 := by simpa using hm
  subst hts
  exact (show Tryz.prog.wantsStandIn 9 = false by kernel_rfl)
/-- The card of the law FormulaReturns. -/
theorem formulaReturns_proved : Rows.FormulaReturnsCardSaid :=
  Claim7.holds_tied_plain_at .later [] _ _ _ _ formulaReturns_said (fun _ h => by cases h) (by kernel_rfl) (fun _ h => by cases h) formulaReturns_row_tie rfl ⟨rfl, rfl⟩ (by kernel_rfl) rfl formulaReturns_plain (by kernel_rfl)
end Go.Proofs.YtnoadopmeoohmaaGreatDoor
