/-
  From the readings of the form to the facts of the abstract layer: the listed variables; a witness world.
-/
import Derived.Test.YtaneeaojlkenmaaGreatDoorL21
import Derived.HandedShaped
import Derived.Test.YtaneeaojlkenmaaGreatDoorRows
import Derived.PinnedBridge
import Derived.Lib.LaidU8
import Derived.Lib.LaidTab
import Derived.WalkKit
import Derived.ProofKit
import Derived.OpenShut
import Derived.JoinedCond
import Derived.ChangeArms
import Derived.ReadAgain
import Derived.Below
import Derived.Deep.DeepHandedRow
import Derived.Deep.DeepWitnessRowRef
import Derived.Lib.LaidIn
namespace Go.Proofs.YtaneeaojlkenmaaGreatDoor
open Go
set_option linter.unusedVariables false
set_option linter.unusedSimpArgs false
section
open Go.RowKit Go.ChangeShapes Go.ChangeAt
/-! From the readings of the form to the facts of the abstract layer. -/

/-- all that lies in the world, as persistent facts -/
def hp (w : World) : Hp := fun b o => (w.cell? ⟨b, o, none⟩).filter (·.oneCell')
theorem hp_mem (w : World) : Mem (hp w) w := fun b o v h => by
  simp only [hp, Option.filter_eq_some_iff] at h
  exact h
theorem hp_cell {w : World} {b o : Nat} {v : Value} (h : w.cell? ⟨b, o, none⟩ = some v) (h1 : v.oneCell' = true) : hp w b o = some v := by
  simp only [hp, Option.filter_eq_some_iff]
  exact ⟨h, h1⟩
theorem Holds.start (w : World) (hg : Glob w) (hs : NG ≤ w.heap.size) : Holds ⟨w, hp w, []⟩ (hp w) [] w :=
  ⟨hp_mem w, Own.ok_nil w, Own.sep_nil, fun b hb => (by cases hb), fun b hb => (by cases hb), ⟨rfl, rfl, rfl, Nat.le_refl _, fun _ _ _ => rfl⟩, fun _ _ _ h => h, fun _ _ _ h => .inl h, fun b o v h1 h2 => absurd (h1.symm.trans h2) (by simp), ⟨hg, hs, fun b hb => (by cases hb)⟩⟩
/-- a contract over all that lies in the world -/
theorem Fn.start {P : Program} {f : FuncId} {args : List Value} {w : World} {post : Value → Hp → Own → Prop} (h : Fn P f args (hp w) [] post) (hg : Glob w) (hs : NG ≤ w.heap.size) :
    Calls P f args.toArray w fun e w' => ∃ v H' I', e = .returned v ∧ Below w.heap.size w w' ∧ post v H' I' := by
  refine (h w (by simpa [Own.blocks] using Holds.start w hg hs)).mono ?_
  rintro e w' ⟨v, H', I', rfl, hh, hq⟩
  exact ⟨v, H', I', rfl, ⟨hh.old.os, hh.old.tape, hh.old.output, hh.old.size, fun k hk => hh.old.block k hk (by simp [Own.blocks])⟩, hq⟩

theorem tkids : Kids Tryz.prog (· < Tryz.prog.types.size) := kids_rows (by kernel_rfl) (by kernel_rfl)
theorem tfull : ∀ t e, t < Tryz.prog.types.size → Tryz.prog.underlying t = some (.slice e) → 0 < Tryz.prog.cellsOf e := slices_full_of Tryz.prog (by kernel_rfl)

theorem trodAll_carry {T : Type} {enc : TypeId × Value → T} {P : Program} {w w' : World} {base : Nat} {sp : Nat → Bool} {held : Bool} : ∀ {ts : List TypeId} {vs : List Value} {ds : List (DataW T)} {ps : List MemPlace},
    DataW.TrodAll enc P w base sp held ts vs ds ps → (∀ p ∈ ps, w.sameAt w' p) → DataW.TrodAll enc P w' base sp held ts vs ds ps
  | [], [], [], _, h, _ => h
  | _ :: _, _ :: _, _ :: _, _, ⟨p, q, ⟨n, h1⟩, h2, e⟩, hs => ⟨p, q, ⟨n, DataW.trod_carry n _ _ _ h1 fun x hx => hs x (by rw [e]; exact List.mem_append_left _ hx)⟩, trodAll_carry h2 fun x hx => hs x (by rw [e]; exact List.mem_append_right _ hx), e⟩
/-- the law has answered true and has left alone what was there -/
theorem law_post {T : Type} {enc : TypeId × Value → T} {f : Func} {s : ChangeSpec} {apart : Bool} {W W' : World} {args : Array Value} {ds gs : List (DataW T)} {before : List MemPlace}
    (hW : DataW.Whole enc Tryz.prog f.params.toList s.vars apart W args.toList ds gs before) (hv : s.vars = []) (hts : ∀ t ∈ f.params.toList, t < Tryz.prog.types.size) (hr : f.resultTypes = #[4])
    (h1 : (s.fn T (ds ++ gs)).results = [.lit (.bool true)]) (h2 : (s.fn T (ds ++ gs)).args = ds) (h3 : (s.fn T (ds ++ gs)).vars = []) (hb : Below W.heap.size W W') :
    s.post enc Tryz.prog f apart true false false W args (.bool true) W' := by
  have hlt := hW.lt
  have hW' := hW
  obtain ⟨p, q, hA, hV, rfl, hfz, hnd⟩ := hW'
  rw [hv] at hV
  have hgs : gs = [] ∧ q = [] := by
    cases gs with
    | nil => exact ⟨rfl, hV⟩
    | cons g gs => exact hV.elim
  obtain ⟨rfl, rfl⟩ := hgs
  simp only [List.append_nil] at *
  refine ⟨ds, [], p, [], p, [], by simpa using hW, ?_, ?_, ?_, ?_, fun h => by cases h⟩
  · simp only [List.append_nil]
    rw [h1, hr]
    exact trodAll_cons_mk (shut_bool Tryz.underlying4 _) trodAll_mk0
  · simp only [List.append_nil]
    rw [h2]
    have := DataW.TrodAll.respare (spare' := fun b => decide (b < W.heap.size)) tkids tfull hts hA fun x hx => by simpa using hlt x hx
    exact trodAll_carry this fun x hx => hb.same (hlt x hx)
  · simp only [List.append_nil]
    rw [h3, hv]; exact rfl
  · exact hb.frame _

end

open Go.Lib
/-- what all the rows list -/
abbrev laidL : List (String × DataW Unit) := Rows.leveltextParsesRow.laid
theorem g_pow : Tryz.prog.globalNamed "internal/strconv.uint64pow10" = some 4 := by kernel_rfl
theorem g_signs : Tryz.prog.globalNamed "obelus/numeral.signs" = some 0 := by kernel_rfl
theorem case274 : Go.Proofs.Lays.n274 Tryz.prog lays159_ren := { lays159 with }
theorem case206 : Tryz.prog.underlying (lays159_ren.t 206) = some (.array 3 (lays159_ren.t 21)) := by kernel_rfl
theorem caseX : CaseExtra Tryz.prog lays159_ren := { n13 := by kernel_rfl, y13 := by kernel_rfl, c21 := by kernel_rfl, c51 := by kernel_rfl, c206 := by kernel_rfl, c208 := by kernel_rfl }
theorem u8L : Go.Proofs.Lays.n260 Tryz.prog lays159_ren := { lays159 with }
theorem u8X : U8Extra Tryz.prog lays159_ren := { n3 := by kernel_rfl, n4 := by kernel_rfl, y3 := by kernel_rfl, y4 := by kernel_rfl, c5 := by kernel_rfl, c119 := by kernel_rfl, c138 := by kernel_rfl }
theorem caseVar_of {W : World} (h : laidMet Tryz.prog laidL W) : CaseVar 5 caseA W := by
  have hr := laidMet.reads h (n := "unicode.CaseRanges") (d := Rows.laid_unicode_CaseRanges) (by unfold laidL Rows.leveltextParsesRow; simp)
  have e : Rows.laid_unicode_CaseRanges = caseData := Pinned.caseRanges_eq
  rw [e] at hr
  exact caseVar_of_reads case274 case206 caseX hr
theorem utf8_of {W : World} (h : laidMet Tryz.prog laidL W) : Lib.Utf8Tabs 2 3 W := by
  have h3 := laidMet.reads h (n := "unicode/utf8.first") (d := Rows.laid_unicode_utf8_first) (by unfold laidL Rows.leveltextParsesRow; simp)
  have h4 := laidMet.reads h (n := "unicode/utf8.acceptRanges") (d := Rows.laid_unicode_utf8_acceptRanges) (by unfold laidL Rows.leveltextParsesRow; simp)
  have e : Rows.laid_unicode_utf8_first = firstData := Pinned.utf8First_eq
  have e4 : (Rows.laid_unicode_utf8_acceptRanges : DataW Unit) = acceptData := by kernel_rfl
  rw [e] at h3
  rw [e4] at h4
  exact utf8Tabs_of_reads u8L u8X h3 h4
theorem c3 : Tryz.prog.cellsOf 3 = 1 := by kernel_rfl
theorem c9 : Tryz.prog.cellsOf 9 = 1 := by kernel_rfl
theorem c167 : Tryz.prog.cellsOf 167 = 2 := by kernel_rfl
theorem pow_of {W : World} (h : laidMet Tryz.prog laidL W) : Lib.TabIs Tryz.prog W "internal/strconv.uint64pow10" .u64 Lib.pow10Tab := by
  obtain ⟨g, t, cs, fuel, p, hg, hty, hvar, hd⟩ := laidMet.reads h (n := "internal/strconv.uint64pow10") (d := Rows.laid_internal_strconv_uint64pow10) (by unfold laidL Rows.leveltextParsesRow; simp)
  obtain rfl := Option.some.inj (g_pow.symm.trans hg)
  obtain rfl : 188 = t := Option.some.inj ((show (Tryz.prog.globals[4]?).map (·.type) = some 188 by kernel_rfl).symm.trans hty)
  have e : (Rows.laid_internal_strconv_uint64pow10 : DataW Unit) = tabData .u64 Lib.pow10Tab := by kernel_rfl
  rw [e] at hd
  unfold Lib.TabIs
  rw [hvar, ← cells_of_tab Tryz.underlying188 Tryz.underlying146 (by kernel_rfl) (by kernel_rfl) hd]
theorem glob_of {W : World} (h : laidMet Tryz.prog laidL W) : Glob W := by
  have ht := pow_of h
  unfold Lib.TabIs World.var? at ht
  rw [g_pow] at ht
  simp only [Option.bind_some] at ht
  cases hb : W.heap[4]? with
  | none => rw [hb] at ht; cases ht
  | some o =>
    rw [hb] at ht
    cases o with
    | cells cs T fz =>
      simp only [Option.some.injEq] at ht
      subst ht
      exact ⟨T, fz, hb⟩
    | _ => cases ht
theorem size_of {W : World} (h : laidMet Tryz.prog laidL W) : NG ≤ W.heap.size := by
  obtain ⟨g, t, cs, fuel, p, hg, hty, hvar, hd⟩ := laidMet.reads h (n := "math/bits.deBruijn32tab") (d := Rows.laid_math_bits_deBruijn32tab) (by unfold laidL Rows.leveltextParsesRow; simp)
  have g6 : Tryz.prog.globalNamed "math/bits.deBruijn32tab" = some 6 := by kernel_rfl
  unfold World.var? at hvar
  rw [g6] at hvar
  simp only [Option.bind_some] at hvar
  rcases Nat.lt_or_ge 6 W.heap.size with h | h
  · exact h
  · rw [Array.getElem?_eq_none h] at hvar
    cases hvar
theorem signs_of {W : World} (h : laidMet Tryz.prog laidL W) : HCells (hp W) 0 0 signCells := by
  obtain ⟨g, t, cs, fuel, p, hg, hty, hvar, hd⟩ := laidMet.reads h (n := "obelus/numeral.signs") (d := Rows.laid_obelus_numeral_signs) (by unfold laidL Rows.leveltextParsesRow; simp)
  obtain rfl := Option.some.inj (g_signs.symm.trans hg)
  obtain rfl : 168 = t := Option.some.inj ((show (Tryz.prog.globals[0]?).map (·.type) = some 168 by kernel_rfl).symm.trans hty)
  have e : (Rows.laid_obelus_numeral_signs : DataW Unit) = .agg (signL.map fun p => .agg [.lit (.int .i64 p.1), .lit (.string p.2)]) := rfl
  rw [e] at hd
  have hcell : ∀ j v, cs.toList[j]? = some v → W.cell? ⟨0, j, none⟩ = some v := by
    intro j v hj
    unfold World.var? at hvar
    rw [g_signs] at hvar
    simp only [Option.bind_some] at hvar
    cases hb : W.heap[0]? with
    | none => rw [hb] at hvar; cases hvar
    | some o =>
      rw [hb] at hvar
      cases o with
      | cells cs' T fz =>
        simp only [Option.some.injEq] at hvar
        subst hvar
        simp only [World.cell?, hb]
        simpa using hj
      | _ => cases hvar
  have key : ∀ i, i < 13 → ∀ v t, signL[i]? = some (v, t) → cs.toList[i * 2]? = some (.int .i64 (v : Int)) ∧ cs.toList[i * 2 + 1]? = some (sv t) := by
    intro i hi v t hs
    obtain ⟨fuel', d, q, hds, htr⟩ := array_elem Tryz.underlying168 hd i hi
    rw [List.getElem?_map, hs] at hds
    simp only [Option.map_some, Option.some.injEq] at hds
    subst hds
    rw [c167] at htr
    obtain ⟨xs, n, rfl, hx, hl, hxl, hall⟩ := DataW.trod_struct Tryz.underlying167 htr
    have hx2 : xs.map (·.1) = [.lit (.int .i64 (v : Int)), .lit (.string t)] := by
      have := congrArg Prod.fst hx
      simpa using this.symm
    obtain ⟨x0, x1, rfl⟩ : ∃ x0 x1, xs = [x0, x1] := by
      match xs, hx2 with
      | [x0, x1], _ => exact ⟨x0, x1, rfl⟩
    simp only [List.map_cons, List.map_nil, List.cons.injEq, and_true] at hx2
    obtain ⟨e0, e1⟩ := hx2
    have f0 := hall 0 _ rfl
    have f1 := hall 1 _ rfl
    change DataW.trod _ _ _ _ _ _ _ 3 ((((cs.toList.drop (i * 2)).take 2).drop 0).take (Tryz.prog.cellsOf 3)) = some x0 at f0
    change DataW.trod _ _ _ _ _ _ _ 9 ((((cs.toList.drop (i * 2)).take 2).drop 1).take (Tryz.prog.cellsOf 9)) = some x1 at f1
    rw [c3] at f0
    rw [c9] at f1
    constructor
    · obtain ⟨z, hz, hx', _⟩ := DataW.trod_int Tryz.underlying3 f0
      rw [hx'] at e0
      cases e0
      have := at_of_take hz
      rw [List.getElem?_take, if_pos (by omega), List.getElem?_drop] at this
      exact this
    · obtain ⟨z, hz, hx', _⟩ := DataW.trod_string Tryz.underlying9 f1
      rw [hx'] at e1
      simp only [DataW.lit.injEq, Lit.string.injEq] at e1
      have := at_of_take hz
      rw [List.getElem?_take, if_pos (by omega), List.getElem?_drop] at this
      rw [this, ← e1]
  intro j v hj
  rw [Nat.zero_add]
  have hv1 : v.oneCell' = true := by
    have := List.mem_of_getElem? hj
    simp [signCells, signL] at this
    rcases this with h | h | h | h | h | h | h | h | h | h | h | h | h | h | h | h | h | h | h | h | h | h | h | h | h | h <;> (subst h; rfl)
  refine hp_cell (hcell j v ?_) hv1
  have hj26 : j < 26 := by
    have := (List.getElem?_eq_some_iff.1 hj).1
    simpa [signCells, signL] using this
  obtain ⟨i, r, hir, hr⟩ : ∃ i r, j = i * 2 + r ∧ r < 2 := ⟨j / 2, j % 2, by omega, by omega⟩
  have hi : i < 13 := by omega
  subst hir
  have hfull : ∀ i : Nat, i < 13 → ∃ v t, signL[i]? = some (v, t) ∧ signCells[i * 2]? = some (.int .i64 (v : Int)) ∧ signCells[i * 2 + 1]? = some (sv t) := by
    intro i hi
    match i, hi with
    | 0, _ | 1, _ | 2, _ | 3, _ | 4, _ | 5, _ | 6, _ | 7, _ | 8, _ | 9, _ | 10, _ | 11, _ | 12, _ => exact ⟨_, _, rfl, rfl, rfl⟩
  obtain ⟨v', t', hs, a1, a2⟩ := hfull i hi
  obtain ⟨b1, b2⟩ := key i hi v' t' hs
  match r, hr with
  | 0, _ => rw [Nat.add_zero] at hj ⊢; rw [a1] at hj; rw [b1]; exact hj
  | 1, _ => rw [a2] at hj; rw [b2]; exact hj
theorem tabs_of {W : World} (h : laidMet Tryz.prog laidL W) : TabsH (hp W) := by
  intro w hw
  have tr : ∀ b o v, W.cell? ⟨b, o, none⟩ = some v → v.oneCell' = true → w.cell? ⟨b, o, none⟩ = some v := fun b o v h1 h2 => (hw b o v (hp_cell h1 h2)).1
  obtain ⟨R, oR, cap, hs, ht⟩ := caseVar_of h
  obtain ⟨u1, u2⟩ := utf8_of h
  refine ⟨⟨R, oR, cap, tr _ _ _ hs rfl, fun i hi => ?_⟩, fun c hc => tr _ _ _ (u1 c hc) rfl, fun i hi => ⟨tr _ _ _ (u2 i hi).1 rfl, tr _ _ _ (u2 i hi).2 rfl⟩⟩
  obtain ⟨c0, c1, c2, c3, c4⟩ := ht i hi
  exact ⟨tr _ _ _ c0 rfl, tr _ _ _ c1 rfl, tr _ _ _ c2 rfl, tr _ _ _ c3 rfl, tr _ _ _ c4 rfl⟩
theorem max_of {W : World} (h : W.ShapedOpen Tryz.prog) : MaxH (hp W) := by
  obtain ⟨m, hm⟩ := cell_of_shapedOpen_int (g := 1) (t := 3) (zero := #[.int .i64 0]) (k := .i64) h (of_decide_eq_true (by kernel_rfl)) (by kernel_rfl) rfl (by kernel_rfl) (by kernel_rfl) Tryz.underlying3
  exact ⟨m, hp_cell hm rfl⟩
theorem env_of {W : World} (h : laidMet Tryz.prog laidL W) : EnvH (hp W) := ⟨tabs_of h, signs_of h⟩
end Go.Proofs.YtaneeaojlkenmaaGreatDoor
