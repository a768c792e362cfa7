/-
  Used and Shift of the program.
-/
import Derived.Test.YtaneeaojlkenmaaGreatDoorL12
namespace Go.Proofs.YtaneeaojlkenmaaGreatDoor
open Go
set_option linter.unusedVariables false
set_option linter.unusedSimpArgs false
/-- the levels of placeholders, in their order -/
def levs (l : List Pt) : List Int := (l.filter fun p => decide (0 < p.lev)).map Pt.lev
theorem mem_levs {l : List Pt} {x : Int} : x ∈ levs l ↔ 0 < x ∧ ∃ p ∈ l, p.lev = x := by
  unfold levs
  rw [List.mem_map]
  constructor
  · rintro ⟨p, hp, rfl⟩
    obtain ⟨h1, h2⟩ := List.mem_filter.1 hp
    exact ⟨by simpa using h2, p, h1, rfl⟩
  · rintro ⟨h, p, hp, rfl⟩
    exact ⟨p, List.mem_filter.2 ⟨hp, by simpa using h⟩, rfl⟩
theorem cmps_levs {l : List Pt} (hok : ∀ p ∈ l, PartOk p) : cmps (levs l) = usedL l := by
  refine ext_inc (cmps_inc _) (usedL_inc _) fun x => ?_
  rw [cmps_mem, mem_levs, mem_usedL]
  constructor
  · rintro ⟨h, p, hp, rfl⟩; exact ⟨by omega, by rcases hok p hp with h1 | h1 <;> omega, p, hp, rfl⟩
  · rintro ⟨h1, _, h⟩; exact ⟨by omega, h⟩
theorem levs_snoc (l : List Pt) (p : Pt) : levs (l ++ [p]) = levs l ++ (if 0 < p.lev then [p.lev] else []) := by
  unfold levs
  rw [List.filter_append, List.map_append]
  congr 1
  rw [List.filter_cons]
  by_cases h : 0 < p.lev
  · rw [if_pos (by simpa using h), if_pos h]; rfl
  · rw [if_neg (by simpa using h), if_neg h]; rfl
/-- what Used hands back -/
def UsedH (s : List UInt8) (v : Value) (H : Hp) (I : Own) : Prop := ∃ a n c, v = .tuple [.slice a n c, .int .i64 (tplE s).2].toArray ∧ HRow H a n c 1 ((usedL (tplE s).1).map irow) ∧ I = []
theorem Norm.each : ∀ {b : Bool} {l : List Pt}, Norm b l → ∀ p ∈ l, PlaceOk p ∨ LitOk p := by
  intro b l h
  induction h with
  | nil => intro p hp; cases hp
  | place hp _ ih =>
    intro q hq
    rcases List.mem_cons.1 hq with rfl | hq
    · exact .inl hp
    · exact ih q hq
  | lit hp _ ih =>
    intro q hq
    rcases List.mem_cons.1 hq with rfl | hq
    · exact .inr hp
    · exact ih q hq
theorem esc_ge (l : List UInt8) : l.length ≤ (esc l).length := by
  induction l with
  | nil => simp [esc]
  | cons b l ih =>
    have : esc (b :: l) = (if b = 37 then [37, 37] else [b]) ++ esc l := by unfold esc; rw [List.flatMap_cons]
    rw [this, List.length_append, List.length_cons]
    split <;> simp <;> omega
theorem wrt_len {l : List Pt} {p : Pt} (hp : p ∈ l) : (wrt p).length ≤ (txt l).length := by
  induction l with
  | nil => cases hp
  | cons q r ih =>
    have e : txt (q :: r) = wrt q ++ txt r := by unfold txt; rw [List.flatMap_cons]
    rw [e, List.length_append]
    rcases List.mem_cons.1 hp with rfl | hp
    · omega
    · have := ih hp; omega
theorem lit_len {s : List UInt8} : ∀ p ∈ (tplE s).1, p.lit.length ≤ 64 := by
  intro p hp
  by_cases h : (tplE s).2 = 0
  · have e : tplE s = ((tplE s).1, 0) := by rw [← h]
    obtain ⟨h1, h2⟩ := tplE_norm e
    obtain ⟨_, h3, _⟩ := tplE_ok e
    rcases h2.each p hp with h4 | h4
    · rw [h4.1]; simp
    · have h5 := wrt_len hp
      rw [h1] at h5
      have h6 : wrt p = esc p.lit := by unfold wrt; rw [if_pos h4.2.1]
      rw [h6] at h5
      have := esc_ge p.lit
      omega
  · rw [tplE_nil h] at hp; cases hp
/-! ### moving the levels -/
def shf (q : Int) (p : Pt) : Pt := if p.lev = 0 then p else { p with lev := p.lev + q }
def badS (q : Int) (p : Pt) : Prop := p.lev ≠ 0 ∧ (q < 1 - p.lev ∨ 9 - p.lev < q)
instance (q : Int) (p : Pt) : Decidable (badS q p) := inferInstanceAs (Decidable (_ ∧ _))
def shiftE (s : List UInt8) (q : Int) : List UInt8 × Int :=
  if (tplE s).2 ≠ 0 then ([], (tplE s).2) else if ∃ p ∈ (tplE s).1, badS q p then ([], 2) else (txtP ((tplE s).1.map (shf q)), 0)
def shiftV (s : List UInt8) (q : Int) : Value := .tuple [sv (shiftE s q).1, .int .i64 (shiftE s q).2].toArray
theorem mid_set {α : Type} {R : List α} {x y : α} : ∀ {L : List α}, (L ++ x :: R).set L.length y = L ++ y :: R
  | [] => rfl
  | a :: L => by rw [List.cons_append, List.length_cons, List.set_cons_succ, mid_set]; rfl
attribute [local irreducible] wpA opsA drJ drQ drE Ef Ev Shift Fn
set_option maxRecDepth 100000 in
set_option maxHeartbeats 2000000 in
theorem lUsed_fn {H : Hp} {s : List UInt8} (hs : s.length < 1099511627776) : Fn Tryz.prog 33 [sv s] H [] (UsedH s) := by
  have hp := fun Hx => lParse_fn (H := Hx) hs
  have hnil := tplE_nil (s := s)
  unfold ParseH at hp
  have hpl := parts_len (s := s)
  have hpo := parts_ok (s := s)
  unfold UsedH
  generalize tplE s = t at *
  obtain ⟨ps, e⟩ := t
  dsimp only at hp hpl hpo hnil ⊢
  by_cases he : e = 0
  · subst he
    rw [← cmps_levs hpo]
    refine Fn_of _ _ Tryz.func33 rfl Tryz.ntmps33 rfl fun c => ?_
    repeat' (first | (refine O_ef rfl (Ef_call (I := []) WideF.wide (hp _) ⟨rfl, trivial⟩ rfl ?_); rintro v H2 I2 hle2 ⟨a1, n1, c1, rfl, hr, rfl⟩); have hn1 : n1 = ps.length := (by have := hr.len; rw [List.length_map] at this; omega) | refine O_nil ?_ | refine A_seq ?_ | refine A_region ?_ | refine A_skip ?_ | refine A_block ?_ | (show opsA _ _ _ _ _ _ _; first | refine O_ev WideF.wide rfl (Ev_pure rfl) rfl rfl ?_ | (show opsA _ _ _ _ (⟨_, .call _, _, _, _, _⟩ :: _) _ _; refine O_ev WideF.wide rfl (Ev_llen rfl) rfl rfl ?_)) | (show wpA _ _ _ (.cond _ _ _) _ _ _ _; (refine A_if rfl (fun h => ?_) (fun h => ?_) <;> try (exfalso; omega))))
    all_goals try (exfalso; omega)
    all_goals try (exfalso; exact absurd trivial (by assumption))
    refine A_nilrow 1 ?_
    refine A_loopu (fun m st => ∃ (i : Nat) (a' : Option Addr) (c' : Nat) (cur : List Int), m = n1 - i ∧ i ≤ n1 ∧ cur = levs (ps.take i) ∧ st = ⟨36, [(6, .slice a' cur.length c'), (17, .slice a1 n1 c1), (18, .int .i64 n1), (19, .int .i64 i)], H2, [.row (.slice a' cur.length c') 1 (cur.map irow)], [], []⟩) ?_ ?_
    · exact Shift.to ⟨_, 0, none, 0, [], rfl, by omega, rfl, rfl⟩ ⟨rfl, rfl, rfl, ⟨rfl, rfl, rfl, rfl, trivial⟩, Own.subi [0] (by decide) rfl rfl⟩
    · rintro m st ⟨i, a', c', cur, rfl, hi, hcur, rfl⟩
      have hcl : cur.length ≤ i := by
        rw [hcur]; unfold levs
        rw [List.length_map]
        refine Nat.le_trans (List.length_filter_le _ _) ?_
        rw [List.length_take]; omega
      by_cases hlt : i < n1
      · obtain ⟨b, o, p, rfl, hpi, hc⟩ := hr.atm i hlt
        unfold prow at hc
        by_cases h0 : 0 < p.lev
        · repeat' (first | (refine O_ev WideF.wide rfl (Ev_loadH rfl hc rfl) rfl rfl ?_) | refine O_nil ?_ | refine A_seq ?_ | refine A_region ?_ | refine A_skip ?_ | refine A_block ?_ | (show opsA _ _ _ _ _ _ _; first | refine O_ev WideF.wide rfl (Ev_pure rfl) rfl rfl ?_ | (show opsA _ _ _ _ (⟨_, .load _ _, _, _, _, _⟩ :: _) _ _; refine O_ev WideF.wide rfl (Ev_loadB1 (i := 0) rfl rfl rfl) rfl rfl ?_) | (show opsA _ _ _ _ (⟨_, .indexAddr _ _ _, _, _, _, _⟩ :: _) _ _; refine O_ev WideF.wide rfl (Ev_indexAddr rfl rfl (by omega) (by omega)) rfl rfl ?_) | (show opsA _ _ _ _ (⟨_, .fieldAddr _ _ _, _, _, _, _⟩ :: _) _ _; refine O_ev WideF.wide rfl (Ev_fieldAddr rfl rfl rfl) rfl rfl ?_) | (show opsA _ _ _ _ (⟨_, .call _, _, _, _, _⟩ :: _) _ _; (refine O_f2 (O_ef rfl (Ef_appendR WideF.wide rfl rfl rfl rfl rfl (by simp; omega) (by simp; omega) rfl ?_)); intro a cp)) | (show opsA _ _ _ _ (⟨_, .buildSlice _ _ _, _, _, _, _⟩ :: _) _ _; (refine O_ef rfl (Ef_build11 WideF.wide rfl rfl rfl ?_); intro b)) | (show opsA _ _ _ _ (⟨_, .binOp _ _ _ _ _, _, _, _, _⟩ :: _) _ _; refine O_ev WideF.wide rfl (Ev_add rfl rfl (wi64 (by omega))) rfl rfl ?_) | (show opsA _ _ _ _ (⟨_, .alloc _, _, _, _, _⟩ :: _) _ _; (refine O_ef rfl (Ef_alloc WideF.wide rfl ?_); intro b)) | (show opsA _ _ _ _ (⟨_, .store _ _ _, _, _, _, _⟩ :: _) _ _; refine O_ef rfl (Ef_storew WideF.wide rfl rfl rfl rfl rfl ?_))) | (show wpA _ _ _ (.cond _ _ _) _ _ _ _; (refine A_if rfl (fun h => ?_) (fun h => ?_) <;> try (exfalso; omega))))
          all_goals try (exfalso; omega)
          rw [isnoc_row, List.length_map]
          refine Shift.to ⟨_, ?_, i + 1, _, _, cur ++ [p.lev], rfl, by omega, by rw [take_get hpi, levs_snoc, if_pos h0, hcur], rfl⟩ ⟨rfl, rfl, rfl, ⟨rfl, rfl, rfl, rfl, trivial⟩, Own.subi [0] (by decide) rfl rfl⟩
          omega
        · repeat' (first | (refine O_ev WideF.wide rfl (Ev_loadH rfl hc rfl) rfl rfl ?_) | refine O_nil ?_ | refine A_seq ?_ | refine A_region ?_ | refine A_skip ?_ | refine A_block ?_ | (show opsA _ _ _ _ _ _ _; first | refine O_ev WideF.wide rfl (Ev_pure rfl) rfl rfl ?_ | (show opsA _ _ _ _ (⟨_, .load _ _, _, _, _, _⟩ :: _) _ _; refine O_ev WideF.wide rfl (Ev_loadB1 (i := 0) rfl rfl rfl) rfl rfl ?_) | (show opsA _ _ _ _ (⟨_, .indexAddr _ _ _, _, _, _, _⟩ :: _) _ _; refine O_ev WideF.wide rfl (Ev_indexAddr rfl rfl (by omega) (by omega)) rfl rfl ?_) | (show opsA _ _ _ _ (⟨_, .fieldAddr _ _ _, _, _, _, _⟩ :: _) _ _; refine O_ev WideF.wide rfl (Ev_fieldAddr rfl rfl rfl) rfl rfl ?_) | (show opsA _ _ _ _ (⟨_, .binOp _ _ _ _ _, _, _, _, _⟩ :: _) _ _; refine O_ev WideF.wide rfl (Ev_add rfl rfl (wi64 (by omega))) rfl rfl ?_) | (show opsA _ _ _ _ (⟨_, .alloc _, _, _, _, _⟩ :: _) _ _; (refine O_ef rfl (Ef_alloc WideF.wide rfl ?_); intro b)) | (show opsA _ _ _ _ (⟨_, .store _ _ _, _, _, _, _⟩ :: _) _ _; refine O_ef rfl (Ef_storew WideF.wide rfl rfl rfl rfl rfl ?_))) | (show wpA _ _ _ (.cond _ _ _) _ _ _ _; (refine A_if rfl (fun h => ?_) (fun h => ?_) <;> try (exfalso; omega))))
          all_goals try (exfalso; omega)
          refine Shift.to ⟨_, ?_, i + 1, a', c', cur, rfl, by omega, by rw [take_get hpi, levs_snoc, if_neg h0, List.append_nil]; exact hcur, rfl⟩ ⟨rfl, rfl, rfl, ⟨rfl, rfl, rfl, rfl, trivial⟩, Own.subi [1] (by decide) rfl rfl⟩
          omega
      · rw [List.take_of_length_le (by omega)] at hcur
        have hso := fun Hx => sortInts_fn (H := Hx) (a := a') (n := cur.length) (cp := c') (l := cur) (by omega)
        have hsl : (srt cur).length = cur.length := (List.mergeSort_perm cur _).length_eq
        have hco := fun Hx => compactInts_fn (H := Hx) (a := a') (n := cur.length) (cp := c') (l := srt cur) (by omega)
        repeat' (first | (refine O_ef rfl (Ef_call0 WideF.wide (hso _) ⟨rfl, trivial⟩ rfl ?_); rintro v H3 I3 hle3 ⟨rfl, rfl, rfl⟩) | (refine O_ef rfl (Ef_call0 WideF.wide (hco _) ⟨rfl, trivial⟩ rfl ?_); rintro v H4 I4 hle4 ⟨rfl, n', rfl, rfl⟩) | refine O_nil ?_ | refine A_seq ?_ | refine A_region ?_ | refine A_ret ?_ | (show opsA _ _ _ _ _ _ _; refine O_ev WideF.wide rfl (Ev_pure rfl) rfl rfl ?_) | (show wpA _ _ _ (.exit _) _ _ _ _; refine A_exit rfl ?_) | (show wpA _ _ _ (.cond _ _ _) _ _ _ _; (refine A_if rfl (fun h => ?_) (fun h => ?_) <;> try (exfalso; omega))))
        all_goals try (exfalso; omega)
        subst hcur
        exact End_row (Ret2 rfl rfl rfl) (irow_one _) fun H' hle hr => ⟨_, _, _, rfl, hr, rfl⟩
  · have hn := hnil he
    subst hn
    refine Fn_of _ _ Tryz.func33 rfl Tryz.ntmps33 rfl fun c => ?_
    repeat' (first | (refine O_ef rfl (Ef_call (I := []) WideF.wide (hp _) ⟨rfl, trivial⟩ rfl ?_); rintro v H2 I2 hle2 ⟨a1, n1, c1, rfl, hr, rfl⟩) | refine O_nil ?_ | refine A_seq ?_ | refine A_region ?_ | refine A_ret ?_ | (show opsA _ _ _ _ _ _ _; refine O_ev WideF.wide rfl (Ev_pure rfl) rfl rfl ?_) | (show wpA _ _ _ (.cond _ _ _) _ _ _ _; (refine A_if rfl (fun h => ?_) (fun h => ?_) <;> try (exfalso; omega))))
    all_goals first
      | (exfalso; omega)
      | exact End_e (Ret2 rfl rfl rfl) ⟨none, 0, 0, rfl, HRow.nil' _ 1, rfl⟩
set_option maxRecDepth 100000 in
set_option maxHeartbeats 4000000 in
theorem Shift_fn {H : Hp} (hM : MaxH H) {s : List UInt8} (hs : s.length < 1099511627776) {q : Int} (hq : I64 q) : Fn Tryz.prog 30 [sv s, .int .i64 q] H [] fun v _ I => v = shiftV s q ∧ I = [] := by
  have hp := fun Hx => Parse_own (H := Hx) hs
  unfold ParseO at hp
  have hpl := parts_len (s := s)
  have hpo := parts_ok (s := s)
  have hll := lit_len (s := s)
  unfold shiftV shiftE
  generalize tplE s = t at *
  obtain ⟨ps, e⟩ := t
  dsimp only at hp hpl hpo hll ⊢
  by_cases he : e = 0
  · subst he
    rw [if_neg (by simp)]
    refine Fn_of _ _ Tryz.func30 rfl Tryz.ntmps30 rfl fun c => ?_
    repeat' (first | (refine O_ef rfl (Ef_call (I := []) WideF.wide (hp _) ⟨rfl, trivial⟩ rfl ?_); rintro v H2 I2 hle2 ⟨a1, c1, rfl, rfl⟩) | refine O_nil ?_ | refine A_seq ?_ | refine A_region ?_ | refine A_skip ?_ | refine A_block ?_ | (show opsA _ _ _ _ _ _ _; first | refine O_ev WideF.wide rfl (Ev_pure rfl) rfl rfl ?_ | (show opsA _ _ _ _ (⟨_, .call _, _, _, _, _⟩ :: _) _ _; refine O_ev WideF.wide rfl (Ev_llen rfl) rfl rfl ?_)) | (show wpA _ _ _ (.cond _ _ _) _ _ _ _; (refine A_if rfl (fun h => ?_) (fun h => ?_) <;> try (exfalso; omega))))
    all_goals try (exfalso; omega)
    all_goals try (exfalso; exact absurd trivial (by assumption))
    refine A_loopu (fun m st => ∃ (i : Nat) (css : List (List Value)), m = ps.length - i ∧ i ≤ ps.length ∧ (∀ p ∈ ps.take i, ¬ badS q p) ∧ css = ((ps.take i).map (shf q) ++ ps.drop i).map prow ∧ st = ⟨58, [(1, .int .i64 q), (6, .slice a1 ps.length c1), (18, .int .i64 ps.length), (19, .int .i64 i)], H2, [.row (.slice a1 ps.length c1) 3 css], [], []⟩) ?_ ?_
    · exact Shift.to ⟨_, 0, _, rfl, by omega, by simp, by simp, rfl⟩ ⟨rfl, rfl, rfl, ⟨rfl, rfl, rfl, rfl, trivial⟩, Own.subi [0] (by decide) rfl rfl⟩
    · rintro m st ⟨i, css, rfl, hi, hnb, hcss, rfl⟩
      by_cases hlt : i < ps.length
      · obtain ⟨p, hpi⟩ : ∃ p, ps[i]? = some p := ⟨_, List.getElem?_eq_getElem hlt⟩
        have hok := hpo p (List.mem_of_getElem? hpi)
        refine A_rowaddr (q := 0) rfl ?_
        intro _ _ ha _ had
        cases a1 with
        | none => have h1 := (ha rfl).1; rw [hcss] at h1; have := congrArg List.length h1; simp at this; omega
        | some ad =>
          obtain ⟨b2, rfl⟩ := had ad rfl
          have hget : css[i]? = some [sv p.lit, .int .i64 p.lev, .bool p.plain] := by
            rw [hcss, List.getElem?_map, List.getElem?_append_right (by simp; omega), List.getElem?_drop]
            simp only [List.length_map, List.length_take]
            rw [show i + (i - min i ps.length) = i by omega, hpi]
            rfl
          have hstep : css.set i (prow (shf q p)) = ((ps.take (i + 1)).map (shf q) ++ ps.drop (i + 1)).map prow := by
            rw [hcss, take_get hpi, drop_get hpi, List.map_append, List.map_cons]
            have hl : i = ((ps.take i).map (shf q)).length := by rw [List.length_map, List.length_take]; omega
            conv => lhs; arg 2; rw [hl, ← List.length_map (f := prow)]
            rw [mid_set]
            simp
          have hnext : ¬ badS q p → ∀ r ∈ ps.take (i + 1), ¬ badS q r := fun h r hr => by
            rw [take_get hpi] at hr
            rcases List.mem_append.1 hr with hr | hr
            · exact hnb r hr
            · rw [List.mem_singleton] at hr; subst hr; exact h
          by_cases h0 : p.lev = 0
          · have hs0 : shf q p = p := by unfold shf; rw [if_pos h0]
            rw [hs0] at hstep
            have hsame : css.set i (prow p) = css := by
              apply List.ext_getElem?
              intro j
              rw [List.getElem?_set]
              by_cases hj : i = j
              · subst hj
                rw [if_pos rfl, hget, if_pos (List.getElem?_eq_some_iff.1 hget).1]; rfl
              · rw [if_neg hj]
            rw [hsame] at hstep
            repeat' (first | (refine O_ev WideF.wide rfl (Ev_loadR1 (q := 0) (d := 1) rfl rfl hget (by omega) rfl) rfl rfl ?_) | refine O_nil ?_ | refine A_seq ?_ | refine A_region ?_ | refine A_skip ?_ | refine A_block ?_ | (show opsA _ _ _ _ _ _ _; first | refine O_ev WideF.wide rfl (Ev_pure rfl) rfl rfl ?_ | (show opsA _ _ _ _ (⟨_, .indexAddr _ _ _, _, _, _, _⟩ :: _) _ _; refine O_ev WideF.wide rfl (Ev_indexAddr rfl rfl (by omega) (by omega)) rfl rfl ?_) | (show opsA _ _ _ _ (⟨_, .fieldAddr _ _ _, _, _, _, _⟩ :: _) _ _; refine O_ev WideF.wide rfl (Ev_fieldAddr rfl rfl rfl) rfl rfl ?_) | (show opsA _ _ _ _ (⟨_, .binOp _ _ _ _ _, _, _, _, _⟩ :: _) _ _; refine O_ev WideF.wide rfl (Ev_add rfl rfl (wi64 (by omega))) rfl rfl ?_)) | (show wpA _ _ _ (.exit _) _ _ _ _; refine A_exit rfl ?_) | (show wpA _ _ _ (.cond _ _ _) _ _ _ _; (refine A_if rfl (fun h => ?_) (fun h => ?_) <;> try (exfalso; omega))))
            all_goals try (exfalso; omega)
            refine Shift.to ⟨_, ?_, i + 1, css, rfl, by omega, hnext (fun h => h.1 h0), hstep, rfl⟩ ⟨rfl, rfl, rfl, ⟨rfl, rfl, rfl, rfl, trivial⟩, Own.subi [0] (by decide) rfl rfl⟩
            omega
          · have hlv : 1 ≤ p.lev ∧ p.lev ≤ 9 := hok.elim (fun h => absurd h h0) id
            by_cases hb : q < 1 - p.lev ∨ 9 - p.lev < q
            · rw [if_pos ⟨p, List.mem_of_getElem? hpi, h0, hb⟩]
              repeat' (first | (refine O_ev WideF.wide rfl (Ev_loadR1 (q := 0) (d := 1) rfl rfl hget (by omega) rfl) rfl rfl ?_) | refine O_nil ?_ | refine A_seq ?_ | refine A_region ?_ | refine A_skip ?_ | refine A_ret ?_ | refine A_block ?_ | (show opsA _ _ _ _ _ _ _; first | (refine O_split rfl rfl (fun h => ?_) (fun h => ?_) <;> try (exfalso; omega)) | refine O_ev WideF.wide rfl (Ev_pure rfl) rfl rfl ?_ | (show opsA _ _ _ _ (⟨_, .indexAddr _ _ _, _, _, _, _⟩ :: _) _ _; refine O_ev WideF.wide rfl (Ev_indexAddr rfl rfl (by omega) (by omega)) rfl rfl ?_) | (show opsA _ _ _ _ (⟨_, .fieldAddr _ _ _, _, _, _, _⟩ :: _) _ _; refine O_ev WideF.wide rfl (Ev_fieldAddr rfl rfl rfl) rfl rfl ?_) | (show opsA _ _ _ _ (⟨_, .binOp _ _ _ _ _, _, _, _, _⟩ :: _) _ _; refine O_ev WideF.wide rfl (Ev_sub rfl rfl (wi64 (by omega))) rfl rfl ?_) | refine O_skip WideF.wide rfl rfl rfl ?_) | (show wpA _ _ _ (.cond _ _ _) _ _ _ _; first | (refine A_if rfl (fun h => ?_) (fun h => ?_) <;> try (exfalso; omega)) | refine A_iftrue rfl ?_))
              all_goals first
                | (exfalso; omega)
                | exact End_e (Ret2 rfl rfl rfl) ⟨rfl, rfl⟩
            · have hs1 : shf q p = ⟨p.lit, p.lev + q, p.plain⟩ := by unfold shf; rw [if_neg h0]
              rw [hs1] at hstep
              repeat' (first | (refine O_ev WideF.wide rfl (Ev_loadR1 (q := 0) (d := 1) rfl rfl hget (by omega) rfl) rfl rfl ?_) | (refine O_ef rfl (Ef_storeR1 WideF.wide (i := i) (dd := 1) (cs := [sv p.lit, .int .i64 p.lev, .bool p.plain]) (cs' := [sv p.lit, .int .i64 (p.lev + q), .bool p.plain]) rfl rfl hget (by omega) rfl rfl rfl rfl ?_)) | refine O_nil ?_ | refine A_seq ?_ | refine A_region ?_ | refine A_skip ?_ | refine A_block ?_ | (show opsA _ _ _ _ _ _ _; first | (refine O_split rfl rfl (fun h => ?_) (fun h => ?_) <;> try (exfalso; omega)) | refine O_ev WideF.wide rfl (Ev_pure rfl) rfl rfl ?_ | (show opsA _ _ _ _ (⟨_, .indexAddr _ _ _, _, _, _, _⟩ :: _) _ _; refine O_ev WideF.wide rfl (Ev_indexAddr rfl rfl (by omega) (by omega)) rfl rfl ?_) | (show opsA _ _ _ _ (⟨_, .fieldAddr _ _ _, _, _, _, _⟩ :: _) _ _; refine O_ev WideF.wide rfl (Ev_fieldAddr rfl rfl rfl) rfl rfl ?_) | (show opsA _ _ _ _ (⟨_, .binOp _ _ _ _ _, _, _, _, _⟩ :: _) _ _; first | refine O_ev WideF.wide rfl (Ev_add rfl rfl (wi64 (by omega))) rfl rfl ?_ | refine O_ev WideF.wide rfl (Ev_sub rfl rfl (wi64 (by omega))) rfl rfl ?_)) | (show wpA _ _ _ (.cond _ _ _) _ _ _ _; (refine A_if rfl (fun h => ?_) (fun h => ?_) <;> try (exfalso; omega))))
              all_goals try (exfalso; omega)
              refine Shift.to ⟨_, ?_, i + 1, _, rfl, by omega, hnext (fun h => hb h.2), hstep, rfl⟩ ⟨rfl, rfl, rfl, ⟨rfl, rfl, rfl, rfl, trivial⟩, Own.subi [0] (by decide) rfl rfl⟩
              omega
      · have hin : i = ps.length := by omega
        subst hin
        rw [List.take_length] at hnb hcss
        rw [List.drop_length, List.append_nil] at hcss
        rw [if_neg (fun ⟨p, hp, h⟩ => hnb p hp h)]
        subst hcss
        have htx := fun Hx (hle : HLe H2 Hx) (hr : HRow Hx a1 ps.length c1 3 ((ps.map (shf q)).map prow)) => text_fn (hM.mono (hle2.trans hle)) hr (by omega) (fun p hp => by
          obtain ⟨r, hr, rfl⟩ := List.mem_map.1 hp
          have h1 := hll r hr
          have h2 := hpo r hr
          have h3 := hnb r hr
          unfold badS at h3
          unfold PartOk at h2
          unfold shf I64
          split
          · exact ⟨by omega, by omega, by omega⟩
          · exact ⟨by show r.lit.length ≤ 1000; omega, by show -9223372036854775808 ≤ r.lev + q; omega, by show r.lev + q < 9223372036854775808; omega⟩)
        repeat' (first | (refine O_freeze (prow_one _) ?_; intro H3 hle3 hr3; refine O_ef rfl (Ef_call (I := []) WideF.wide (htx _ hle3 hr3) ⟨rfl, trivial⟩ rfl ?_); rintro v H4 I4 hle4 ⟨rfl, rfl⟩) | refine O_nil ?_ | refine A_seq ?_ | refine A_region ?_ | refine A_ret ?_ | (show opsA _ _ _ _ _ _ _; refine O_ev WideF.wide rfl (Ev_pure rfl) rfl rfl ?_) | (show wpA _ _ _ (.exit _) _ _ _ _; refine A_exit rfl ?_) | (show wpA _ _ _ (.cond _ _ _) _ _ _ _; (refine A_if rfl (fun h => ?_) (fun h => ?_) <;> try (exfalso; omega))))
        all_goals first
          | (exfalso; omega)
          | exact End_e (Ret2 rfl rfl rfl) ⟨rfl, rfl⟩
  · rw [if_pos (by simpa using he)]
    refine Fn_of _ _ Tryz.func30 rfl Tryz.ntmps30 rfl fun c => ?_
    repeat' (first | (refine O_ef rfl (Ef_call (I := []) WideF.wide (hp _) ⟨rfl, trivial⟩ rfl ?_); rintro v H2 I2 hle2 ⟨a1, c1, rfl, rfl⟩) | refine O_nil ?_ | refine A_seq ?_ | refine A_region ?_ | refine A_ret ?_ | (show opsA _ _ _ _ _ _ _; refine O_ev WideF.wide rfl (Ev_pure rfl) rfl rfl ?_) | (show wpA _ _ _ (.cond _ _ _) _ _ _ _; (refine A_if rfl (fun h => ?_) (fun h => ?_) <;> try (exfalso; omega))))
    all_goals first
      | (exfalso; omega)
      | exact End_e (Ret2 rfl rfl rfl) ⟨rfl, rfl⟩
end Go.Proofs.YtaneeaojlkenmaaGreatDoor
