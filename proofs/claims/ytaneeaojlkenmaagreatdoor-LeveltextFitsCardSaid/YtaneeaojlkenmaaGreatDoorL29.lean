/-
  LeveltextFits.
-/
import Derived.Test.YtaneeaojlkenmaaGreatDoorL30
import Derived.Test.YtaneeaojlkenmaaGreatDoorL20
namespace Go.Proofs.YtaneeaojlkenmaaGreatDoor
open Go Go.Lib
set_option linter.unusedVariables false
set_option linter.unusedSimpArgs false
theorem same_start {fs : List Int} : Same2 fs (List.replicate 10 (-2)) (List.replicate 9 (-1)) := ⟨rfl, rfl, fun j hj => by
  match j, hj with
  | 0, _ | 1, _ | 2, _ | 3, _ | 4, _ | 5, _ | 6, _ | 7, _ | 8, _ => exact ⟨rfl, .inl rfl⟩⟩
attribute [local irreducible] wpA opsA drJ drQ drE Ef Ev Shift Fn
set_option maxRecDepth 100000 in
theorem unknown_fn {H : Hp} : Fn Tryz.prog 28 [] H [] fun v H' I => ∃ a, v = .slice a 9 9 ∧ HRow H' a 9 9 1 ((List.replicate 9 (-1)).map irow) ∧ I = [] := by
  refine Fn_of _ _ Tryz.func28 rfl Tryz.ntmps28 rfl fun c => ?_
  repeat' (first | (refine O_ef rfl (Ef_buildn WideF.wide (k := 1) (xs := [_, _, _, _, _, _, _, _, _]) (vs := [_, _, _, _, _, _, _, _, _]) rfl ⟨rfl, rfl, rfl, rfl, rfl, rfl, rfl, rfl, rfl, trivial⟩ rfl rfl rfl rfl rfl rfl ?_); intro bb) | refine O_nil ?_ | refine A_seq ?_ | refine A_region ?_ | refine A_ret ?_ | (show opsA _ _ _ _ _ _ _; refine O_ev WideF.wide rfl (Ev_pure rfl) rfl rfl ?_))
  exact End_row (Ret1 rfl rfl) (irow_one (List.replicate 9 (-1))) fun H' hle hr => ⟨_, rfl, hr, rfl⟩
set_option maxRecDepth 100000 in
set_option maxHeartbeats 4000000 in
theorem LeveltextFits_fn {H : Hp} (hE : EnvH H) {a : Option Addr} {n cq : Nat} {l : List Lv} (hx : HRow H a n cq 4 (l.map lvrow)) {q : Int} (hq : I64 q) {lab : List UInt8} :
    Fn Tryz.prog 6 [.slice a n cq, .int .i64 q, sv lab] H [] fun v _ I => v = .bool true ∧ I = [] := by
  have hs := short_fn hx
  have hk := fun Hx (h : HLe H Hx) => known_fn (hE.mono h)
  have hlen := shortL_len l
  have htp := shortL_tpl l
  obtain ⟨m2, hm2, hm3⟩ : ∃ m2 : Nat, (if (20 : Int) < (lab.length : Int) then (20 : Int) else (lab.length : Int)) = (m2 : Int) ∧ m2 ≤ 20 ∧ m2 ≤ lab.length := ⟨min 20 lab.length, by split <;> omega, by omega, by omega⟩
  have e3 : (lab.take m2).length = m2 := by rw [List.length_take]; omega
  generalize shortL l = sl at *
  generalize hms : lab.take m2 = ms at *
  have hF := fun Hx (hl : HLe H Hx) a n c (h : HRow Hx a n c 4 (sl.map lvrow)) (hn : n < 68719476736) => Fits_fn (hE.mono hl) h hn htp q (lab := ms) (by omega)
  have hC := fun Hx a n c (h : HRow Hx a n c 4 (sl.map lvrow)) (hn : n < 68719476736) => rCheckLevels_fn h hn htp
  have hun := fun Hx => unknown_fn (H := Hx)
  unfold fitsV at hF
  by_cases hck : chkLv sl = 0
  · rw [hck] at hC
    have hlv := lvE_ok hck q
    by_cases hqr : q < 1 ∨ (sl.length : Int) < q
    · rw [if_pos hqr] at hlv
      have hfe : fitsE sl q ms = (false, 2) := by unfold fitsE; rw [hlv, if_pos (by simp)]
      rw [hfe] at hF
      dsimp only at hF
      refine Fn_of _ _ Tryz.func6 rfl Tryz.ntmps6 rfl fun c => ?_
      repeat' (first | (refine O_ef rfl (Ef_call (I := []) WideF.wide (hs) ⟨rfl, trivial⟩ rfl ?_); rintro v H1 I1 hle1 ⟨a1, n1, c1, rfl, r1, rfl⟩); have hn1 := r1.n_eq | (refine O_ev WideF.wide rfl (Ev_mini rfl rfl) rfl rfl ?_; rw [hm2]) | (refine O_ev WideF.wide rfl (Ev_ssliceh rfl rfl (by omega) (by omega)) rfl rfl ?_; rw [Int.toNat_natCast, hms]) | (refine O_ef rfl (Ef_call (I := []) WideF.wide (hF _ hle1 _ _ _ r1 (by omega)) ⟨rfl, rfl, rfl, trivial⟩ rfl ?_); rintro v H2 I2 hle2 ⟨rfl, rfl⟩) | (refine O_ef rfl (Ef_call (I := []) WideF.wide (hk _ (hle1.trans hle2)) trivial rfl ?_); rintro v H3 I3 hle3 ⟨rfl, rfl⟩) | (refine O_ef rfl (Ef_call (I := []) WideF.wide (hC _ _ _ _ (r1.mono (hle2.trans hle3)) (by omega)) ⟨rfl, trivial⟩ rfl ?_); rintro v H4 I4 hle4 ⟨rfl, rfl⟩) | refine O_nil ?_ | refine A_seq ?_ | refine A_region ?_ | refine A_skip ?_ | refine A_ret ?_ | (show opsA _ _ _ _ _ _ _; first | (refine O_split rfl rfl (fun h => ?_) (fun h => ?_) <;> try (exfalso; omega)) | refine O_ev WideF.wide rfl (Ev_pure rfl) rfl rfl ?_ | (show opsA _ _ _ _ (⟨_, .call _, _, _, _, _⟩ :: _) _ _; first | refine O_ev WideF.wide rfl (Ev_llen rfl) rfl rfl ?_ | refine O_ev WideF.wide rfl (Ev_slen rfl) rfl rfl ?_) | (show opsA _ _ _ _ (⟨_, .unOp _ _ _, _, _, _, _⟩ :: _) _ _; refine O_ev WideF.wide rfl (Ev_notb rfl) rfl rfl ?_) | refine O_skip WideF.wide rfl rfl rfl ?_) | (show wpA _ _ _ (.cond _ _ _) _ _ _ _; first | (refine A_if rfl (fun h => ?_) (fun h => ?_) <;> try (exfalso; omega)) | refine A_iftrue rfl ?_ | refine A_iffalse rfl ?_))
      all_goals first
        | exact End_e (Ret1 rfl rfl) ⟨rfl, rfl⟩
        | (exfalso; omega)
        | (exfalso; exact absurd trivial (by assumption))
    · rw [if_neg hqr] at hlv
      obtain ⟨k, rfl⟩ : ∃ k : Nat, q = k + 1 := ⟨(q - 1).toNat, by omega⟩
      obtain ⟨x, hxk⟩ : ∃ x, sl[k]? = some x := ⟨_, List.getElem?_eq_getElem (by omega)⟩
      have hk1 : (k : Int) + 1 - 1 = (k : Int) := by omega
      have hfe : fitsE sl ((k : Int) + 1) ms = (mtP (fmts sl) (tplE x.tpl).1 ms (List.replicate 10 (-2)), 0) := by
        unfold fitsE
        rw [hlv, if_neg (by simp), if_neg (by omega), show ((k : Int) + 1 - 1).toNat = k by omega, hxk]
      rw [hfe, fit_same (fmts sl) (tplE x.tpl).1 ms _ _ (fun p hp => parts_ok p hp) same_start] at hF
      obtain ⟨hl1, hl9, hall⟩ := chkLv_ok hck
      obtain ⟨_, _, hct⟩ := hall k x hxk
      have hin := parts_in hct
      obtain ⟨ht1, ht2, ht3, ht4, ht5⟩ := chkT_ok hct
      have hP := fun Hx => rParse10_fn (H := Hx) (s := x.tpl) (by omega)
      unfold ParseH at hP
      have hpl := parts_len (s := x.tpl)
      generalize tplE x.tpl = t at *
      obtain ⟨ps, e⟩ := t
      dsimp only at hF hP hin ht1 ht4 ht5 hpl
      subst ht1
      have hR := fun Hx a c (h : HRow Hx a sl.length c 4 (sl.map lvrow)) a1 c1 (h1 : HRow Hx a1 ps.length c1 3 (ps.map prow)) a2 (h2 : HRow Hx a2 9 9 1 ((List.replicate 9 (-1)).map irow)) =>
        rFits_fn hl9 ps ms Hx a c a1 c1 a2 9 (List.replicate 9 (-1)) (fun p hp => by have := hin p hp; omega) (by omega) (by omega) rfl h h1 h2
      generalize mtR (fmts sl) ps ms (List.replicate 9 (-1)) = res at *
      refine Fn_of _ _ Tryz.func6 rfl Tryz.ntmps6 rfl fun c => ?_
      repeat' (first | (refine O_ef rfl (Ef_call (I := []) WideF.wide (hs) ⟨rfl, trivial⟩ rfl ?_); rintro v H1 I1 hle1 ⟨a1, n1, c1, rfl, r1, rfl⟩); obtain rfl : n1 = sl.length := r1.n_eq | (refine O_ev WideF.wide rfl (Ev_mini rfl rfl) rfl rfl ?_; rw [hm2]) | (refine O_ev WideF.wide rfl (Ev_ssliceh rfl rfl (by omega) (by omega)) rfl rfl ?_; rw [Int.toNat_natCast, hms]) | (refine O_ef rfl (Ef_call (I := []) WideF.wide (hF _ hle1 _ _ _ r1 (by omega)) ⟨rfl, rfl, rfl, trivial⟩ rfl ?_); rintro v H2 I2 hle2 ⟨rfl, rfl⟩) | (refine O_ef rfl (Ef_call (I := []) WideF.wide (hk _ (hle1.trans hle2)) trivial rfl ?_); rintro v H3 I3 hle3 ⟨rfl, rfl⟩) | (refine O_ef rfl (Ef_call (I := []) WideF.wide (hC _ _ _ _ (r1.mono (hle2.trans hle3)) (by omega)) ⟨rfl, trivial⟩ rfl ?_); rintro v H4 I4 hle4 ⟨rfl, rfl⟩); have r1 := r1.mono ((hle2.trans hle3).trans hle4); obtain ⟨b, o, y, rfl, hyi, hcy⟩ := r1.atm k (by omega); rw [hxk] at hyi; cases hyi; unfold lvrow at hcy | (refine O_ev WideF.wide rfl (Ev_sub rfl rfl (wi64 (by omega))) rfl rfl ?_; rw [hk1]) | (refine O_ev WideF.wide rfl (Ev_loadH1 rfl (hcy 2 _ rfl)) rfl rfl ?_) | (refine O_ef rfl (Ef_call (I := []) WideF.wide (hP _) ⟨rfl, trivial⟩ rfl ?_); rintro v H5 I5 hle5 ⟨a5, n5, c5, rfl, r5, rfl⟩); obtain rfl : n5 = ps.length := r5.n_eq | (refine O_ef rfl (Ef_call (I := []) WideF.wide (hun _) trivial rfl ?_); rintro v H6 I6 hle6 ⟨a6, rfl, r6, rfl⟩) | (refine O_ef rfl (Ef_call (I := []) WideF.wide (hR _ _ _ (r1.mono (hle5.trans hle6)) _ _ (r5.mono hle6) _ r6) ⟨rfl, rfl, rfl, rfl, trivial⟩ rfl ?_); rintro v H7 I7 hle7 ⟨rfl, rfl⟩) | (refine O_ev WideF.wide rfl (Ev_eqb rfl rfl) rfl rfl ?_) | refine O_nil ?_ | refine A_seq ?_ | refine A_region ?_ | refine A_skip ?_ | refine A_ret ?_ | (show opsA _ _ _ _ _ _ _; first | (refine O_split rfl rfl (fun h => ?_) (fun h => ?_) <;> try (exfalso; omega)) | refine O_ev WideF.wide rfl (Ev_pure rfl) rfl rfl ?_ | (show opsA _ _ _ _ (⟨_, .indexAddr _ _ _, _, _, _, _⟩ :: _) _ _; refine O_ev WideF.wide rfl (Ev_indexAddr rfl rfl (by omega) (by omega)) rfl rfl ?_) | (show opsA _ _ _ _ (⟨_, .fieldAddr _ _ _, _, _, _, _⟩ :: _) _ _; refine O_ev WideF.wide rfl (Ev_fieldAddr rfl rfl rfl) rfl rfl ?_) | (show opsA _ _ _ _ (⟨_, .call _, _, _, _, _⟩ :: _) _ _; first | refine O_ev WideF.wide rfl (Ev_llen rfl) rfl rfl ?_ | refine O_ev WideF.wide rfl (Ev_slen rfl) rfl rfl ?_) | (show opsA _ _ _ _ (⟨_, .unOp _ _ _, _, _, _, _⟩ :: _) _ _; refine O_ev WideF.wide rfl (Ev_notb rfl) rfl rfl ?_)) | (show wpA _ _ _ (.cond _ _ _) _ _ _ _; first | (refine A_if rfl (fun h => ?_) (fun h => ?_) <;> try (exfalso; omega)) | refine A_iffalse rfl ?_))
      all_goals first
        | exact End_e (Ret1 rfl rfl) ⟨rfl, rfl⟩
        | exact End_e (Ret1 rfl rfl) ⟨congrArg Value.bool (beq_self_eq_true _), rfl⟩
        | (exfalso; omega)
        | (exfalso; exact absurd trivial (by assumption))
  · have hfe : fitsE sl q ms = (false, chkLv sl) := by
      have : lvE sl q = chkLv sl := by unfold lvE; rw [if_pos hck]
      unfold fitsE; rw [this, if_pos hck]
    rw [hfe] at hF
    dsimp only at hF
    generalize chkLv sl = e at *
    refine Fn_of _ _ Tryz.func6 rfl Tryz.ntmps6 rfl fun c => ?_
    repeat' (first | (refine O_ef rfl (Ef_call (I := []) WideF.wide (hs) ⟨rfl, trivial⟩ rfl ?_); rintro v H1 I1 hle1 ⟨a1, n1, c1, rfl, r1, rfl⟩); have hn1 := r1.n_eq | (refine O_ev WideF.wide rfl (Ev_mini rfl rfl) rfl rfl ?_; rw [hm2]) | (refine O_ev WideF.wide rfl (Ev_ssliceh rfl rfl (by omega) (by omega)) rfl rfl ?_; rw [Int.toNat_natCast, hms]) | (refine O_ef rfl (Ef_call (I := []) WideF.wide (hF _ hle1 _ _ _ r1 (by omega)) ⟨rfl, rfl, rfl, trivial⟩ rfl ?_); rintro v H2 I2 hle2 ⟨rfl, rfl⟩) | (refine O_ef rfl (Ef_call (I := []) WideF.wide (hk _ (hle1.trans hle2)) trivial rfl ?_); rintro v H3 I3 hle3 ⟨rfl, rfl⟩) | (refine O_ef rfl (Ef_call (I := []) WideF.wide (hC _ _ _ _ (r1.mono (hle2.trans hle3)) (by omega)) ⟨rfl, trivial⟩ rfl ?_); rintro v H4 I4 hle4 ⟨rfl, rfl⟩) | (refine O_ev WideF.wide rfl (Ev_eqis rfl rfl) rfl rfl ?_) | refine O_nil ?_ | refine A_seq ?_ | refine A_region ?_ | refine A_skip ?_ | refine A_ret ?_ | (show opsA _ _ _ _ _ _ _; first | (refine O_split rfl rfl (fun h => ?_) (fun h => ?_) <;> try (exfalso; omega)) | refine O_ev WideF.wide rfl (Ev_pure rfl) rfl rfl ?_ | (show opsA _ _ _ _ (⟨_, .call _, _, _, _, _⟩ :: _) _ _; refine O_ev WideF.wide rfl (Ev_slen rfl) rfl rfl ?_) | (show opsA _ _ _ _ (⟨_, .unOp _ _ _, _, _, _, _⟩ :: _) _ _; refine O_ev WideF.wide rfl (Ev_notb rfl) rfl rfl ?_) | refine O_skip WideF.wide rfl rfl rfl ?_) | (show wpA _ _ _ (.cond _ _ _) _ _ _ _; first | (refine A_if rfl (fun h => ?_) (fun h => ?_) <;> try (exfalso; omega)) | refine A_iffalse rfl ?_))
    all_goals first
      | exact End_e (Ret1 rfl rfl) ⟨rfl, rfl⟩
      | (exfalso; omega)
      | (exfalso; exact absurd trivial (by assumption))
end Go.Proofs.YtaneeaojlkenmaaGreatDoor
