/-
  LeveltextDepends.
-/
import Derived.Test.YtaneeaojlkenmaaGreatDoorL25
namespace Go.Proofs.YtaneeaojlkenmaaGreatDoor
open Go Go.Lib
set_option linter.unusedVariables false
set_option linter.unusedSimpArgs false
theorem Ev_sliceArr {P : Program} {e : Env} {H : Hp} {R : Own} {dst : Option Tmp} {ty : TypeId} {pos : String} {after : Array Edge} {g : Option (Nat × Bool)} {x : Operand} {t : TypeId} {b o : Nat} {el len s : Nat} {ag : Bool} [ht : UndC P t (.array len el)] [hs : TyC P el ag s] (hx : e.eval x = some (.pointer (some ⟨b, o, none⟩))) :
    Ev P ⟨dst, .slice t x none none none, ty, pos, after, g⟩ e H R (.slice (some ⟨b, o, none⟩) len len) := fun a w he _ _ => by
  simp [execOp, he.eval hx, Instr.sliceAt, Instr.sliceBounds, Instr.sureAddr, ht.run, hs.sizeOf, Addr.add_lit]
/-- a variable of numbers, as a row -/
theorem HRow.cells {H : Hp} {b : Nat} {ns : List Int} (h : HCells H b 0 (ncells ns)) : HRow H (some ⟨b, 0, none⟩) ns.length ns.length 1 (ns.map irow) := by
  refine ⟨List.length_map .., Nat.le_refl _, fun h => (by cases h), fun i cs hi => ?_⟩
  rw [List.getElem?_map] at hi
  obtain ⟨x, hx, rfl⟩ := Option.map_eq_some_iff.1 hi
  refine ⟨rfl, b, 0, rfl, fun j v hj => ?_⟩
  cases j with
  | zero =>
    have := h i (.int .i64 x) (by rw [List.getElem?_map, hx]; rfl)
    simp [irow] at hj
    subst hj
    simpa using this
  | succ j => simp [irow] at hj
theorem fillS_cong {fs : List Int} {ns ns' : List Int} : ∀ {ps : List Pt}, (∀ p ∈ ps, p.lev = 0 ∨ ns.getD (p.lev - 1).toNat 0 = ns'.getD (p.lev - 1).toNat 0) → fillS fs ps ns = fillS fs ps ns'
  | [], _ => rfl
  | p :: r, h => by
    have e1 : ∀ ns, fillS fs (p :: r) ns = (if p.lev = 0 then p.lit else digT (fmtOf fs p) (ns.getD (p.lev - 1).toNat 0) p.plain) ++ fillS fs r ns := fun ns => by unfold fillS; rw [List.flatMap_cons]
    rw [e1, e1, fillS_cong fun q hq => h q (List.mem_cons_of_mem _ hq)]
    rcases h p (by simp) with h0 | h0
    · rw [if_pos h0, if_pos h0]
    · rw [h0]
theorem fillS_set {fs : List Int} {ns : List Int} {ps : List Pt} {at_ : Nat} {x : Int} (hp : ∀ p ∈ ps, p.lev = 0 ∨ 1 ≤ p.lev ∧ p.lev ≠ (at_ : Int) + 1) (hl : at_ < ns.length) : fillS fs ps (ns.set at_ x) = fillS fs ps ns := by
  refine fillS_cong fun p h => ?_
  rcases hp p h with h0 | h0
  · exact .inl h0
  · refine .inr ?_
    rw [getD_set hl, if_neg (by omega)]
/-- a level that is not used -/
theorem not_used {ps : List Pt} {at_ : Nat} (hok : ∀ p ∈ ps, PartOk p) (h : ∀ y ∈ usedL ps, y ≠ (at_ : Int) + 1) : ∀ p ∈ ps, p.lev = 0 ∨ 1 ≤ p.lev ∧ p.lev ≠ (at_ : Int) + 1 := fun p hp => by
  rcases hok p hp with h0 | ⟨h1, h2⟩
  · exact .inl h0
  · exact .inr ⟨h1, h _ (mem_usedL.2 ⟨h1, h2, p, hp, rfl⟩)⟩
theorem iset1 (ns : List Int) (j : Nat) (x : Int) : (ns.map irow).set j [.int .i64 x] = (ns.set j x).map irow := by rw [List.map_set]; rfl
attribute [local irreducible] wpA opsA drJ drQ drE Ef Ev Shift Fn
set_option maxRecDepth 100000 in
set_option maxHeartbeats 8000000 in
theorem LeveltextDepends_fn {H : Hp} (hE : EnvH H) {a : Option Addr} {n cq : Nat} {l : List Lv} (hx : HRow H a n cq 4 (l.map lvrow)) {ns : List Int} (hns : ns.length = 9) (c0 c1 : Int) :
    Fn Tryz.prog 8 [.slice a n cq, .agg (ncells ns).toArray, .agg [.int .i64 c0, .int .i64 c1].toArray] H [] fun v _ I => v = .bool true ∧ I = [] := by
  have hs := fun Hx (h : HLe H Hx) => short_fn (hx.mono h)
  have hk := fun Hx (h : HLe H Hx) => known_fn (hE.mono h)
  have hlen := shortL_len l
  have htp := shortL_tpl l
  generalize shortL l = sl at *
  have hC := fun Hx a n c (h : HRow Hx a n c 4 (sl.map lvrow)) (hn : n < 68719476736) => rCheckLevels_fn h hn htp
  by_cases hck : chkLv sl = 0
  · rw [hck] at hC
    obtain ⟨hl1, hl9, hall⟩ := chkLv_ok hck
    obtain ⟨k, hkl⟩ : ∃ k, sl.length = k + 1 := ⟨sl.length - 1, by omega⟩
    obtain ⟨x, hxk⟩ : ∃ x, sl[k]? = some x := ⟨_, List.getElem?_eq_getElem (by omega)⟩
    have hk1 : ((k + 1 : Nat) : Int) - 1 = (k : Int) := by omega
    obtain ⟨_, _, hct⟩ := hall k x hxk
    have hF := fun Hx (hl : HLe H Hx) a n c (h : HRow Hx a n c 4 (sl.map lvrow)) (hn : n < 68719476736) (ms : List Int) a2 c2 (h2 : HRow Hx a2 9 c2 1 (ms.map irow)) => Fill_fn (hE.mono hl) h hn htp ((k + 1 : Nat) : Int) h2 (by omega)
    have hfe : ∀ ms : List Int, ms.length = 9 → fillE sl ((k + 1 : Nat) : Int) ms = (fillS (fmts sl) (tplE x.tpl).1 ms, 0) := fun ms hm => fillE_ok hck hxk (by omega)
    obtain ⟨ht1, ht2, ht3, ht4, ht5⟩ := chkT_ok hct
    have hP := fun Hx => rParse10_fn (H := Hx) (s := x.tpl) (by omega)
    unfold ParseH at hP
    have hpl := parts_len (s := x.tpl)
    have hpo := parts_ok (s := x.tpl)
    unfold fillV at hF
    generalize tplE x.tpl = t at *
    obtain ⟨ps, e⟩ := t
    dsimp only at hP ht1 hpl hpo hfe
    subst ht1
    have hus := fun Hx a n c (h : HRow Hx a n c 3 (ps.map prow)) (hn : n < 68719476736) => rUsed_fn h hn
    unfold IntsIs at hus
    have hul : (usedL ps).length ≤ 9 := usedUp_len ps 9
    have hnu := fun at_ => not_used (at_ := at_) hpo
    generalize usedL ps = us at *
    obtain ⟨j, hj9, hcase⟩ : ∃ j : Nat, j < 9 ∧ ((0 < c0 ∧ c0 % 9 = (j : Int)) ∨ (¬ 0 < c0 ∧ j = 0)) := by
      by_cases h0 : 0 < c0
      · exact ⟨(c0 % 9).toNat, by omega, .inl ⟨h0, by omega⟩⟩
      · exact ⟨0, by omega, .inr ⟨h0, rfl⟩⟩
    have hset := fun h => fillS_set (fs := fmts sl) (x := c1) (hnu j h) (by omega : j < ns.length)
    have hfe1 := hfe ns hns
    have hfe2 := hfe (ns.set j c1) (by rw [List.length_set]; exact hns)
    rcases hcase with ⟨h0, hj⟩ | ⟨h0, hj⟩
    all_goals
      refine Fn_of _ _ Tryz.func8 rfl Tryz.ntmps8 rfl fun c => ?_
      repeat' (first | (refine O_ef rfl (Ef_boxa WideF.wide (cs := ncells ns) rfl rfl ?_); intro b4; refine O_freezeBox (ncells_one ns) ?_; intro H1 hle1 hb4) | (refine O_ef rfl (Ef_boxa WideF.wide (cs := [.int .i64 c0, .int .i64 c1]) rfl rfl ?_); intro b5; refine O_freezeBox (ncells_one [c0, c1]) ?_; intro H2 hle2 hb5) | (refine O_ef rfl (Ef_call (I := []) WideF.wide (hs _ (hle1.trans hle2)) ⟨rfl, trivial⟩ rfl ?_); rintro v H3 I3 hle3 ⟨a3, n3, c3, rfl, r3, rfl⟩); obtain rfl : n3 = k + 1 := (by have := r3.n_eq; omega) | (refine O_ef rfl (Ef_call (I := []) WideF.wide (hk _ ((hle1.trans hle2).trans hle3)) trivial rfl ?_); rintro v H4 I4 hle4 ⟨rfl, rfl⟩) | (refine O_ef rfl (Ef_call (I := []) WideF.wide (hC _ _ _ _ (r3.mono hle4) (by omega)) ⟨rfl, trivial⟩ rfl ?_); rintro v H5 I5 hle5 ⟨rfl, rfl⟩); have g5 := (((hle1.trans hle2).trans hle3).trans hle4).trans hle5; have r3 := r3.mono (hle4.trans hle5); have hb4 := hb4.mono ((hle2.trans hle3).trans (hle4.trans hle5)); have hb5 := hb5.mono (hle3.trans (hle4.trans hle5)); obtain ⟨b, o, y, rfl, hyi, hcy⟩ := r3.atm k (by omega); rw [hxk] at hyi; cases hyi; unfold lvrow at hcy; clear hle1 hle2 hle3 hle4 hle5 | (refine O_ev WideF.wide rfl (Ev_indexArr rfl rfl (by omega) (by omega)) rfl rfl ?_) | (refine O_ev WideF.wide rfl (Ev_loadH1 rfl (hb5 0 _ rfl)) rfl rfl ?_) | (refine O_ev WideF.wide rfl (Ev_remp rfl rfl (by omega) (by omega)) rfl rfl ?_; rw [hj]) | (refine O_ev WideF.wide rfl (Ev_sub rfl rfl (wi64 (by omega))) rfl rfl ?_; rw [hk1]) | (refine O_ev WideF.wide rfl (Ev_loadH1 rfl (hcy 2 _ rfl)) rfl rfl ?_) | (refine O_ef rfl (Ef_call (I := []) WideF.wide (hP _) ⟨rfl, trivial⟩ rfl ?_); rintro v H6 I6 hle6 ⟨a6, n6, c6, rfl, r6, rfl⟩); have hn6 := r6.n_eq | (refine O_ef rfl (Ef_call (I := []) WideF.wide (hus _ _ _ _ r6 (by omega)) ⟨rfl, trivial⟩ rfl ?_); rintro v H7 I7 hle7 ⟨a7, n7, c7, rfl, r7, rfl⟩); have hn7 := r7.n_eq; have g7 := g5.trans (hle6.trans hle7); have r3 := r3.mono (hle6.trans hle7); have hb4 := hb4.mono (hle6.trans hle7); have hb5 := hb5.mono (hle6.trans hle7); clear hle6 hle7 | refine O_nil ?_ | refine A_seq ?_ | refine A_region ?_ | refine A_skip ?_ | refine A_block ?_ | (show opsA _ _ _ _ _ _ _; first | refine O_ev WideF.wide rfl (Ev_pure rfl) rfl rfl ?_ | (show opsA _ _ _ _ (⟨_, .indexAddr _ _ _, _, _, _, _⟩ :: _) _ _; refine O_ev WideF.wide rfl (Ev_indexAddr rfl rfl (by omega) (by omega)) rfl rfl ?_) | (show opsA _ _ _ _ (⟨_, .fieldAddr _ _ _, _, _, _, _⟩ :: _) _ _; refine O_ev WideF.wide rfl (Ev_fieldAddr rfl rfl rfl) rfl rfl ?_) | (show opsA _ _ _ _ (⟨_, .call _, _, _, _, _⟩ :: _) _ _; refine O_ev WideF.wide rfl (Ev_llen rfl) rfl rfl ?_) | (show opsA _ _ _ _ (⟨_, .unOp _ _ _, _, _, _, _⟩ :: _) _ _; refine O_ev WideF.wide rfl (Ev_notb rfl) rfl rfl ?_)) | (show wpA _ _ _ (.cond _ _ _) _ _ _ _; (refine A_if rfl (fun h => ?_) (fun h => ?_) <;> try (exfalso; omega))))
      all_goals try (exfalso; omega)
      all_goals try (exfalso; exact absurd trivial (by assumption))
      have hb41 := HRow.cells hb4
      rw [hns] at hb41
      refine A_loopu (fun m st => ∃ i : Nat, m = us.length - i ∧ i ≤ us.length ∧ (∀ y ∈ us.take i, y ≠ (j : Int) + 1) ∧ st = ⟨96, [(0, .slice (some ⟨b, o, none⟩) (k + 1) c3), (4, .pointer (some ⟨b4, 0, none⟩)), (5, .pointer (some ⟨b5, 0, none⟩)), (7, .int .i64 ((k + 1 : Nat) : Int)), (8, .int .i64 (j : Int)), (11, .slice a7 n7 c7), (12, .int .i64 (i : Int))], H7, [], [], []⟩) ?_ ?_
      · first
          | exact Shift.to ⟨_, 0, rfl, by omega, by simp, rfl⟩ ⟨rfl, rfl, rfl, ⟨rfl, rfl, rfl, rfl, rfl, rfl, rfl, trivial⟩, Own.sub_nil _⟩
          | (subst hj; exact Shift.to ⟨_, 0, rfl, by omega, by simp, rfl⟩ ⟨rfl, rfl, rfl, ⟨rfl, rfl, rfl, rfl, rfl, rfl, rfl, trivial⟩, Own.sub_nil _⟩)
      · rintro m st ⟨i, rfl, hi, hnj, rfl⟩
        by_cases hlt : i < us.length
        · obtain ⟨b8, o8, y, rfl, hyi, hcu⟩ := r7.atm i (by omega)
          unfold irow at hcu
          by_cases hyj : y = (j : Int) + 1
          · repeat' (first | (refine O_ev WideF.wide rfl (Ev_loadH1 rfl (hcu 0 _ rfl)) rfl rfl ?_) | refine O_nil ?_ | refine A_seq ?_ | refine A_region ?_ | refine A_skip ?_ | refine A_ret ?_ | refine A_block ?_ | (show opsA _ _ _ _ _ _ _; first | refine O_ev WideF.wide rfl (Ev_pure rfl) rfl rfl ?_ | (show opsA _ _ _ _ (⟨_, .indexAddr _ _ _, _, _, _, _⟩ :: _) _ _; refine O_ev WideF.wide rfl (Ev_indexAddr rfl rfl (by omega) (by omega)) rfl rfl ?_) | (show opsA _ _ _ _ (⟨_, .call _, _, _, _, _⟩ :: _) _ _; refine O_ev WideF.wide rfl (Ev_llen rfl) rfl rfl ?_) | (show opsA _ _ _ _ (⟨_, .binOp _ _ _ _ _, _, _, _, _⟩ :: _) _ _; refine O_ev WideF.wide rfl (Ev_add rfl rfl (wi64 (by omega))) rfl rfl ?_)) | (show wpA _ _ _ (.cond _ _ _) _ _ _ _; (refine A_if rfl (fun h => ?_) (fun h => ?_) <;> try (exfalso; omega))))
            all_goals first
              | (exfalso; omega)
              | exact End_e (Ret1 rfl rfl) ⟨rfl, rfl⟩
          · repeat' (first | (refine O_ev WideF.wide rfl (Ev_loadH1 rfl (hcu 0 _ rfl)) rfl rfl ?_) | refine O_nil ?_ | refine A_seq ?_ | refine A_region ?_ | refine A_skip ?_ | refine A_block ?_ | (show opsA _ _ _ _ _ _ _; first | refine O_ev WideF.wide rfl (Ev_pure rfl) rfl rfl ?_ | (show opsA _ _ _ _ (⟨_, .indexAddr _ _ _, _, _, _, _⟩ :: _) _ _; refine O_ev WideF.wide rfl (Ev_indexAddr rfl rfl (by omega) (by omega)) rfl rfl ?_) | (show opsA _ _ _ _ (⟨_, .call _, _, _, _, _⟩ :: _) _ _; refine O_ev WideF.wide rfl (Ev_llen rfl) rfl rfl ?_) | (show opsA _ _ _ _ (⟨_, .binOp _ _ _ _ _, _, _, _, _⟩ :: _) _ _; refine O_ev WideF.wide rfl (Ev_add rfl rfl (wi64 (by omega))) rfl rfl ?_)) | (show wpA _ _ _ (.cond _ _ _) _ _ _ _; (refine A_if rfl (fun h => ?_) (fun h => ?_) <;> try (exfalso; omega))))
            all_goals try (exfalso; omega)
            refine Shift.to ⟨_, ?_, i + 1, rfl, by omega, ?_, rfl⟩ ⟨rfl, rfl, rfl, ⟨rfl, rfl, rfl, rfl, rfl, rfl, rfl, trivial⟩, Own.sub_nil _⟩
            · omega
            · intro z hz
              rw [take_get hyi] at hz
              rcases List.mem_append.1 hz with hz | hz
              · exact hnj z hz
              · rw [List.mem_singleton] at hz; subst hz; exact hyj
        · rw [List.take_of_length_le (by omega)] at hnj
          have hse := hset hnj
          rw [hse] at hfe2
          have hF1 := fun Hx hl a n c h hn a2 c2 h2 => hF Hx hl a n c h hn ns a2 c2 h2
          have hF2 := fun Hx hl a n c h hn a2 c2 h2 => hF Hx hl a n c h hn (ns.set j c1) a2 c2 h2
          rw [hfe1] at hF1
          rw [hfe2] at hF2
          dsimp only at hF1 hF2
          generalize fillS (fmts sl) ps ns = t at *
          have hget : (ns.map irow)[j]? = some [.int .i64 (ns.getD j 0)] := by
            rw [List.getElem?_map, List.getElem?_eq_getElem (by omega), List.getD, List.getElem?_eq_getElem (by omega)]; rfl
          repeat' (first | (refine O_ev WideF.wide rfl (Ev_sliceArr rfl) rfl rfl ?_) | (refine O_ef rfl (Ef_call (I := []) WideF.wide (hF1 _ g7 _ _ _ r3 (by omega) _ _ hb41) ⟨rfl, rfl, rfl, trivial⟩ rfl ?_); rintro v H8 I8 hle8 ⟨rfl, rfl⟩); have hb8 := hb5.mono hle8 | (refine O_ef rfl (Ef_build0 WideF.wide rfl ?_); intro bb) | (refine O_ef rfl (Ef_appendH WideF.wide rfl rfl (hb41.mono hle8) rfl rfl (by simp) (by simp) rfl ?_); intro a9 c9; rw [List.nil_append, List.length_map, hns]; refine O_rowaddr (q := 0) rfl ?_; intro q1 q2 q3 q4 q5; obtain ⟨ad, rfl⟩ : ∃ ad, a9 = some ad := (by cases a9 with | none => exact absurd (congrArg List.length (q3 rfl).1) (by rw [List.length_map, hns]; decide) | some ad => exact ⟨ad, rfl⟩); obtain ⟨b9, rfl⟩ := q5 ad rfl) | (refine O_ev WideF.wide rfl (Ev_indexArr rfl rfl (by omega) (by omega)) rfl rfl ?_) | (refine O_ev WideF.wide rfl (Ev_loadH1 rfl (hb8 1 _ rfl)) rfl rfl ?_) | (refine O_ef rfl (Ef_storeR1 WideF.wide (i := j) (dd := 0) (cs := [.int .i64 (ns.getD j 0)]) (cs' := [.int .i64 c1]) rfl rfl hget (by omega) rfl rfl rfl rfl ?_); rw [iset1]) | (refine O_freeze (irow_one _) ?_; intro H9 hle9 r9; refine O_ef rfl (Ef_call (I := []) WideF.wide (hF2 _ (g7.trans (hle8.trans hle9)) _ _ _ (r3.mono (hle8.trans hle9)) (by omega) _ _ r9) ⟨rfl, rfl, rfl, trivial⟩ rfl ?_); rintro v H10 I10 hle10 ⟨rfl, rfl⟩) | refine O_nil ?_ | refine A_seq ?_ | refine A_region ?_ | refine A_ret ?_ | (show opsA _ _ _ _ _ _ _; first | (refine O_split rfl rfl (fun h => ?_) (fun h => ?_) <;> try (exfalso; omega)) | refine O_ev WideF.wide rfl (Ev_pure rfl) rfl rfl ?_ | (show opsA _ _ _ _ (⟨_, .indexAddr _ _ _, _, _, _, _⟩ :: _) _ _; refine O_ev WideF.wide rfl (Ev_indexAddr rfl rfl (by omega) (by omega)) rfl rfl ?_) | (show opsA _ _ _ _ (⟨_, .call _, _, _, _, _⟩ :: _) _ _; refine O_ev WideF.wide rfl (Ev_llen rfl) rfl rfl ?_) | (show opsA _ _ _ _ (⟨_, .binOp _ _ _ _ _, _, _, _, _⟩ :: _) _ _; refine O_ev WideF.wide rfl (Ev_seql rfl rfl) rfl rfl ?_)) | (show wpA _ _ _ (.exit _) _ _ _ _; refine A_exit rfl ?_) | (show wpA _ _ _ (.cond _ _ _) _ _ _ _; (refine A_if rfl (fun h => ?_) (fun h => ?_) <;> try (exfalso; omega))))
          all_goals first
            | (exfalso; omega)
            | exact End_e (Ret1 rfl rfl) ⟨congrArg Value.bool (decide_eq_true rfl), rfl⟩
            | (exfalso; exact absurd trivial (by assumption))
  · generalize chkLv sl = e at *
    refine Fn_of _ _ Tryz.func8 rfl Tryz.ntmps8 rfl fun c => ?_
    repeat' (first | (refine O_ef rfl (Ef_boxa WideF.wide (cs := ncells ns) rfl rfl ?_); intro b4; refine O_freezeBox (ncells_one ns) ?_; intro H1 hle1 hb4) | (refine O_ef rfl (Ef_boxa WideF.wide (cs := [.int .i64 c0, .int .i64 c1]) rfl rfl ?_); intro b5; refine O_freezeBox (ncells_one [c0, c1]) ?_; intro H2 hle2 hb5) | (refine O_ef rfl (Ef_call (I := []) WideF.wide (hs _ (hle1.trans hle2)) ⟨rfl, trivial⟩ rfl ?_); rintro v H3 I3 hle3 ⟨a3, n3, c3, rfl, r3, rfl⟩); have hn3 := r3.n_eq | (refine O_ef rfl (Ef_call (I := []) WideF.wide (hk _ (by first | exact (hle1.trans hle2).trans hle3 | exact (((hle1.trans hle2).trans hle3).trans hle4).trans hle5)) trivial rfl ?_); rintro v H4 I4 hle4 ⟨rfl, rfl⟩) | (refine O_ef rfl (Ef_call (I := []) WideF.wide (hC _ _ _ _ (r3.mono hle4) (by omega)) ⟨rfl, trivial⟩ rfl ?_); rintro v H5 I5 hle5 ⟨rfl, rfl⟩) | refine O_nil ?_ | refine A_seq ?_ | refine A_region ?_ | refine A_ret ?_ | (show opsA _ _ _ _ _ _ _; first | refine O_ev WideF.wide rfl (Ev_pure rfl) rfl rfl ?_ | (show opsA _ _ _ _ (⟨_, .unOp _ _ _, _, _, _, _⟩ :: _) _ _; refine O_ev WideF.wide rfl (Ev_notb rfl) rfl rfl ?_)) | (show wpA _ _ _ (.cond _ _ _) _ _ _ _; (refine A_if rfl (fun h => ?_) (fun h => ?_) <;> try (exfalso; omega))))
    all_goals first
      | exact End_e (Ret1 rfl rfl) ⟨rfl, rfl⟩
      | (exfalso; omega)
      | (exfalso; exact absurd trivial (by assumption))
end Go.Proofs.YtaneeaojlkenmaaGreatDoor
