/-
  The law's short; LeveltextChecks, LeveltextFills.
-/
import Derived.Test.YtaneeaojlkenmaaGreatDoorL22
namespace Go.Proofs.YtaneeaojlkenmaaGreatDoor
open Go Go.Lib
set_option linter.unusedVariables false
set_option linter.unusedSimpArgs false
/-- what the laws take of the levels -/
def cutLv (x : Lv) : Lv := { x with tpl := x.tpl.take 80 }
def shortL (l : List Lv) : List Lv := (l.take 12).map cutLv
theorem shortL_len (l : List Lv) : (shortL l).length ≤ 12 := by unfold shortL; rw [List.length_map, List.length_take]; omega
theorem shortL_tpl (l : List Lv) : ∀ x ∈ shortL l, x.tpl.length < 1099511627776 := by
  intro x hx
  obtain ⟨y, _, rfl⟩ := List.mem_map.1 hx
  exact take80 y.tpl
theorem snoc_lv {acc : List Lv} (x : Lv) : acc.map lvrow ++ [lvrow x] = (acc ++ [x]).map lvrow := by rw [List.map_append]; rfl
theorem HRow.take {H : Hp} {a : Option Addr} {n c k : Nat} {css : List (List Value)} (h : HRow H a n c k css) {m : Nat} (hm : m ≤ n) : HRow H a m c k (css.take m) := by
  refine ⟨?_, Nat.le_trans hm h.cap, fun ha => ?_, fun i cs hi => ?_⟩
  · rw [List.length_take, h.len]; omega
  · have := h.nil ha; omega
  · rw [List.getElem?_take] at hi
    split at hi
    · exact h.el i cs hi
    · cases hi
attribute [local irreducible] wpA opsA drJ drQ drE Ef Ev Shift Fn
set_option maxRecDepth 100000 in
set_option maxHeartbeats 1000000 in
theorem short_fn {H : Hp} {a : Option Addr} {n cq : Nat} {l : List Lv} (hx : HRow H a n cq 4 (l.map lvrow)) :
    Fn Tryz.prog 19 [.slice a n cq] H [] fun v H' I => ∃ a' n' c', v = .slice a' n' c' ∧ HRow H' a' n' c' 4 ((shortL l).map lvrow) ∧ I = [] := by
  have e1 : l.length = n := by have := hx.len; simpa using this
  have hc := fun Hx s => mcut_fn (H := Hx) (s := s)
  refine Fn_of _ _ Tryz.func19 rfl Tryz.ntmps19 rfl fun c => ?_
  repeat' (first | refine O_nil ?_ | refine A_seq ?_ | refine A_region ?_ | refine A_block ?_ | (show opsA _ _ _ _ _ _ _; refine O_ev WideF.wide rfl (Ev_pure rfl) rfl rfl ?_))
  refine A_nilrow 4 ?_
  refine A_loopu (fun m st => ∃ (i : Nat) (a' : Option Addr) (c' : Nat) (acc : List Lv) (H1 : Hp), m = 12 - i ∧ i ≤ n ∧ i ≤ 12 ∧ acc.length = i ∧ acc = (l.take i).map cutLv ∧ HLe H H1 ∧ st = ⟨29, [(0, .slice a n cq), (3, .slice a' acc.length c'), (4, .int .i64 i)], H1, [.row (.slice a' acc.length c') 4 (acc.map lvrow)], [], []⟩) ?_ ?_
  · exact Shift.to ⟨_, 0, none, 0, [], H, rfl, by omega, by omega, rfl, by simp, HLe.refl H, rfl⟩ ⟨rfl, rfl, rfl, ⟨rfl, rfl, rfl, trivial⟩, Own.subi [0] (by decide) rfl rfl⟩
  · rintro m st ⟨i, a', c', acc, H1, rfl, hi, hi12, hal, hacc, hl1, rfl⟩
    by_cases hlt : i < n ∧ i < 12
    · obtain ⟨b, o, x, rfl, hxi, hcl⟩ := hx.atm i hlt.1
      have hcl := hcl.mono hl1
      unfold lvrow at hcl
      have hnx : acc ++ [cutLv x] = (l.take (i + 1)).map cutLv := by rw [take_get hxi, List.map_append, hacc]; rfl
      repeat' (first | (refine O_ev WideF.wide rfl (Ev_loadH rfl hcl rfl) rfl rfl ?_) | (refine O_ef rfl (Ef_callp WideF.wide (hc _ _) ⟨rfl, trivial⟩ rfl ?_)) | refine O_nil ?_ | refine A_seq ?_ | refine A_region ?_ | refine A_skip ?_ | refine A_block ?_ | (show opsA _ _ _ _ _ _ _; first | (refine O_split rfl rfl (fun h => ?_) (fun h => ?_) <;> try (exfalso; omega)) | refine O_ev WideF.wide rfl (Ev_pure rfl) rfl rfl ?_ | (show opsA _ _ _ _ (⟨_, .load _ _, _, _, _, _⟩ :: _) _ _; first | refine O_ev WideF.wide rfl (Ev_loadB1 (i := 0) rfl rfl rfl) rfl rfl ?_ | refine O_ev WideF.wide rfl (Ev_loadB (i := 0) rfl rfl rfl) rfl rfl ?_) | (show opsA _ _ _ _ (⟨_, .indexAddr _ _ _, _, _, _, _⟩ :: _) _ _; refine O_ev WideF.wide rfl (Ev_indexAddr rfl rfl (by omega) (by omega)) rfl rfl ?_) | (show opsA _ _ _ _ (⟨_, .fieldAddr _ _ _, _, _, _, _⟩ :: _) _ _; refine O_ev WideF.wide rfl (Ev_fieldAddr rfl rfl rfl) rfl rfl ?_) | (show opsA _ _ _ _ (⟨_, .call _, _, _, _, _⟩ :: _) _ _; first | refine O_ev WideF.wide rfl (Ev_llen rfl) rfl rfl ?_ | (refine O_f2 (O_ef rfl (Ef_appendR WideF.wide rfl rfl rfl rfl rfl (by simp; omega) (by simp; omega) rfl ?_)); intro a cp)) | (show opsA _ _ _ _ (⟨_, .buildSlice _ _ _, _, _, _, _⟩ :: _) _ _; (refine O_ef rfl (Ef_build1a WideF.wide rfl rfl rfl rfl rfl ?_); intro b)) | (show opsA _ _ _ _ (⟨_, .binOp _ _ _ _ _, _, _, _, _⟩ :: _) _ _; refine O_ev WideF.wide rfl (Ev_add rfl rfl (wi64 (by omega))) rfl rfl ?_) | (show opsA _ _ _ _ (⟨_, .alloc _, _, _, _, _⟩ :: _) _ _; (refine O_ef rfl (Ef_alloc WideF.wide rfl ?_); intro b)) | (show opsA _ _ _ _ (⟨_, .store _ _ _, _, _, _, _⟩ :: _) _ _; first | refine O_ef rfl (Ef_storew WideF.wide rfl rfl rfl rfl rfl ?_) | refine O_ef rfl (Ef_store1 WideF.wide rfl rfl rfl rfl rfl ?_))) | (show wpA _ _ _ (.cond _ _ _) _ _ _ _; (refine A_if rfl (fun h => ?_) (fun h => ?_) <;> try (exfalso; omega))))
      all_goals try (exfalso; omega)
      rw [show tset [Value.int IntKind.i64 x.fmt, Value.int IntKind.i64 x.start, sv x.tpl, Value.int IntKind.i64 x.restart] (0 + 2) (sv (List.take 80 x.tpl)) = lvrow (cutLv x) from rfl, snoc_lv, List.length_map]
      refine Shift.to ⟨_, ?_, i + 1, _, _, acc ++ [cutLv x], _, rfl, by omega, by omega, by rw [List.length_append]; simp; omega, hnx, hl1, rfl⟩ ⟨rfl, rfl, rfl, ⟨rfl, rfl, rfl, trivial⟩, Own.subi [0] (by decide) rfl rfl⟩
      omega
    · have hfin : acc = shortL l := by
        rw [hacc]; unfold shortL
        congr 1
        by_cases h12 : i = 12
        · subst h12; rfl
        · rw [List.take_of_length_le (by omega), List.take_of_length_le (by omega)]
      repeat' (first | refine O_nil ?_ | refine A_seq ?_ | refine A_region ?_ | refine A_ret ?_ | (show opsA _ _ _ _ _ _ _; first | (refine O_split rfl rfl (fun h => ?_) (fun h => ?_) <;> try (exfalso; omega)) | refine O_ev WideF.wide rfl (Ev_pure rfl) rfl rfl ?_ | (show opsA _ _ _ _ (⟨_, .call _, _, _, _, _⟩ :: _) _ _; refine O_ev WideF.wide rfl (Ev_llen rfl) rfl rfl ?_) | refine O_skip WideF.wide rfl rfl rfl ?_) | (show wpA _ _ _ (.exit _) _ _ _ _; refine A_exit rfl ?_) | (show wpA _ _ _ (.cond _ _ _) _ _ _ _; first | (refine A_if rfl (fun h => ?_) (fun h => ?_) <;> try (exfalso; omega)) | refine A_iffalse rfl ?_))
      all_goals try (exfalso; omega)
      all_goals try (exfalso; exact hlt ⟨by assumption, by omega⟩)
      all_goals exact End_row (Ret1 rfl rfl) (lvrow_one _) fun H' hle hr => ⟨_, _, _, rfl, by rw [← hfin]; exact hr, rfl⟩
set_option maxRecDepth 100000 in
set_option maxHeartbeats 1000000 in
theorem LeveltextChecks_fn {H : Hp} (hE : EnvH H) {a : Option Addr} {n cq : Nat} {l : List Lv} (hx : HRow H a n cq 4 (l.map lvrow)) {s : List UInt8} {q : Int} :
    Fn Tryz.prog 4 [.slice a n cq, sv s, .int .i64 q] H [] fun v _ I => v = .bool true ∧ I = [] := by
  have hs := short_fn hx
  have hc := fun Hx => mcut_fn (H := Hx) (s := s)
  have hk := fun Hx (h : HLe H Hx) => known_fn (hE.mono h)
  have hlen := shortL_len l
  have h1 := fun Hx a n c (h : HRow Hx a n c 4 ((shortL l).map lvrow)) (hn : n < 68719476736) => lCheckLevels_fn h hn (shortL_tpl l)
  have h2 := fun Hx a n c (h : HRow Hx a n c 4 ((shortL l).map lvrow)) (hn : n < 68719476736) => rCheckLevels_fn h hn (shortL_tpl l)
  have h3 := fun Hx => lCheck_fn (H := Hx) (take80 s) q
  have h4 := fun Hx => rCheck_fn (H := Hx) (take80 s) q
  refine Fn_of _ _ Tryz.func4 rfl Tryz.ntmps4 rfl fun c => ?_
  repeat' (first | (refine O_ef rfl (Ef_call (I := []) WideF.wide (hs) ⟨rfl, trivial⟩ rfl ?_); rintro v H1 I1 hle1 ⟨a1, n1, c1, rfl, r1, rfl⟩); have hn1 := r1.n_eq | (refine O_ef rfl (Ef_callp WideF.wide (hc _) ⟨rfl, trivial⟩ rfl ?_)) | (refine O_ef rfl (Ef_call (I := []) WideF.wide (hk _ hle1) trivial rfl ?_); rintro v H2 I2 hle2 ⟨rfl, rfl⟩) | (refine O_ef rfl (Ef_call (I := []) WideF.wide (h1 _ _ _ _ (r1.mono hle2) (by omega)) ⟨rfl, trivial⟩ rfl ?_); rintro v H3 I3 hle3 ⟨rfl, rfl⟩) | (refine O_ef rfl (Ef_call (I := []) WideF.wide (h2 _ _ _ _ (r1.mono (hle2.trans hle3)) (by omega)) ⟨rfl, trivial⟩ rfl ?_); rintro v H4 I4 hle4 ⟨rfl, rfl⟩) | (refine O_ev WideF.wide rfl (Ev_eqis rfl rfl) rfl rfl ?_) | (refine O_ef rfl (Ef_call (I := []) WideF.wide (h3 _) ⟨rfl, rfl, trivial⟩ rfl ?_); rintro v H5 I5 hle5 ⟨rfl, rfl⟩) | (refine O_ef rfl (Ef_call (I := []) WideF.wide (h4 _) ⟨rfl, rfl, trivial⟩ rfl ?_); rintro v H6 I6 hle6 ⟨rfl, rfl⟩) | refine O_nil ?_ | refine A_seq ?_ | refine A_region ?_ | refine A_ret ?_ | (show opsA _ _ _ _ _ _ _; refine O_ev WideF.wide rfl (Ev_pure rfl) rfl rfl ?_))
  all_goals first
    | exact End_e (Ret1 rfl rfl) ⟨rfl, rfl⟩
    | (exfalso; exact absurd trivial (by assumption))
theorem fillS_200 {x : Lv} {k : Nat} (hct : chkT x.tpl ((k : Int) + 1) = 0) (fs ns : List Int) : (fillS fs (tplE x.tpl).1 ns).length ≤ 200 := by
  obtain ⟨ht1, ht2, ht3, ht4, ht5⟩ := chkT_ok hct
  have h1 := fill_len fs ns (tplE x.tpl).1
  rw [ht5] at h1
  omega
theorem fillE_ok {l : List Lv} (h : chkLv l = 0) {k : Nat} {x : Lv} (hk : l[k]? = some x) {ns : List Int} (hn : k < ns.length) : fillE l ((k : Int) + 1) ns = (fillS (fmts l) (tplE x.tpl).1 ns, 0) := by
  have hl := (List.getElem?_eq_some_iff.1 hk).1
  have hlv : lvE l ((k : Int) + 1) = 0 := by
    unfold lvE
    rw [h, if_neg (by simp), if_neg (by omega)]
  unfold fillE
  rw [hlv, if_neg (by simp), if_neg (by omega), show ((k : Int) + 1 - 1).toNat = k by omega, hk]
theorem lvE_ok {l : List Lv} (h : chkLv l = 0) (q : Int) : lvE l q = if q < 1 ∨ (l.length : Int) < q then 2 else 0 := by
  unfold lvE; rw [h, if_neg (by simp)]
set_option maxRecDepth 100000 in
set_option maxHeartbeats 4000000 in
theorem LeveltextFills_fn {H : Hp} (hE : EnvH H) {a : Option Addr} {n cq : Nat} {l : List Lv} (hx : HRow H a n cq 4 (l.map lvrow)) {q : Int} (hq : I64 q)
    {a2 : Option Addr} {n2 c2 : Nat} {ns : List Int} (hns : HRow H a2 n2 c2 1 (ns.map irow)) :
    Fn Tryz.prog 5 [.slice a n cq, .int .i64 q, .slice a2 n2 c2] H [] fun v _ I => v = .bool true ∧ I = [] := by
  have hs := short_fn hx
  have hk := fun Hx (h : HLe H Hx) => known_fn (hE.mono h)
  have hlen := shortL_len l
  have htp := shortL_tpl l
  have e2 : ns.length = n2 := by have := hns.len; simpa using this
  obtain ⟨m2, hm2, hm3⟩ : ∃ m2 : Nat, (if (20 : Int) < (n2 : Int) then (20 : Int) else (n2 : Int)) = (m2 : Int) ∧ m2 ≤ 20 ∧ m2 ≤ n2 := ⟨min 20 n2, by split <;> omega, by omega, by omega⟩
  have hcap := hns.cap
  have hns' := hns.take hm3.2
  rw [← List.map_take] at hns'
  have e3 : (ns.take m2).length = m2 := by rw [List.length_take]; omega
  generalize shortL l = sl at *
  generalize ns.take m2 = ms at *
  have hF := fun Hx (hl : HLe H Hx) a n c (h : HRow Hx a n c 4 (sl.map lvrow)) (hn : n < 68719476736) => Fill_fn (hE.mono hl) h hn htp q (hns'.mono hl) (by omega)
  have hC := fun Hx a n c (h : HRow Hx a n c 4 (sl.map lvrow)) (hn : n < 68719476736) => rCheckLevels_fn h hn htp
  unfold fillV at hF
  by_cases hck : chkLv sl = 0
  · rw [hck] at hC
    have hlv := lvE_ok hck q
    by_cases hqr : q < 1 ∨ (sl.length : Int) < q
    · rw [if_pos hqr] at hlv
      have hfe : fillE sl q ms = ([], 2) := by unfold fillE; rw [hlv, if_pos (by simp)]
      rw [hfe] at hF
      dsimp only at hF
      refine Fn_of _ _ Tryz.func5 rfl Tryz.ntmps5 rfl fun c => ?_
      repeat' (first | (refine O_ef rfl (Ef_call (I := []) WideF.wide (hs) ⟨rfl, trivial⟩ rfl ?_); rintro v H1 I1 hle1 ⟨a1, n1, c1, rfl, r1, rfl⟩); have hn1 := r1.n_eq | (refine O_ev WideF.wide rfl (Ev_mini rfl rfl) rfl rfl ?_; rw [hm2]) | (refine O_ev WideF.wide rfl (Ev_lsliceh rfl rfl (by omega) (by omega)) rfl rfl ?_; rw [Int.toNat_natCast]) | (refine O_ef rfl (Ef_call (I := []) WideF.wide (hF _ hle1 _ _ _ r1 (by omega)) ⟨rfl, rfl, rfl, trivial⟩ rfl ?_); rintro v H2 I2 hle2 ⟨rfl, rfl⟩) | (refine O_ef rfl (Ef_call (I := []) WideF.wide (hk _ (hle1.trans hle2)) trivial rfl ?_); rintro v H3 I3 hle3 ⟨rfl, rfl⟩) | (refine O_ef rfl (Ef_call (I := []) WideF.wide (hC _ _ _ _ (r1.mono (hle2.trans hle3)) (by omega)) ⟨rfl, trivial⟩ rfl ?_); rintro v H4 I4 hle4 ⟨rfl, rfl⟩) | refine O_nil ?_ | refine A_seq ?_ | refine A_region ?_ | refine A_skip ?_ | refine A_ret ?_ | (show opsA _ _ _ _ _ _ _; first | (refine O_split rfl rfl (fun h => ?_) (fun h => ?_) <;> try (exfalso; omega)) | refine O_ev WideF.wide rfl (Ev_pure rfl) rfl rfl ?_ | (show opsA _ _ _ _ (⟨_, .call _, _, _, _, _⟩ :: _) _ _; refine O_ev WideF.wide rfl (Ev_llen rfl) rfl rfl ?_) | (show opsA _ _ _ _ (⟨_, .binOp _ _ _ _ _, _, _, _, _⟩ :: _) _ _; refine O_ev WideF.wide rfl (Ev_seql rfl rfl) rfl rfl ?_) | (show opsA _ _ _ _ (⟨_, .unOp _ _ _, _, _, _, _⟩ :: _) _ _; refine O_ev WideF.wide rfl (Ev_notb rfl) rfl rfl ?_) | refine O_skip WideF.wide rfl rfl rfl ?_) | (show wpA _ _ _ (.cond _ _ _) _ _ _ _; first | (refine A_if rfl (fun h => ?_) (fun h => ?_) <;> try (exfalso; omega)) | refine A_iftrue rfl ?_ | refine A_iffalse rfl ?_))
      all_goals first
        | exact End_e (Ret1 rfl rfl) ⟨rfl, rfl⟩
        | (exfalso; omega)
        | (exfalso; exact absurd trivial (by assumption))
    · rw [if_neg hqr] at hlv
      by_cases h11 : (m2 : Int) < q
      · have hfe : fillE sl q ms = ([], 11) := by unfold fillE; rw [hlv, if_neg (by simp), if_pos (by omega)]
        rw [hfe] at hF
        dsimp only at hF
        refine Fn_of _ _ Tryz.func5 rfl Tryz.ntmps5 rfl fun c => ?_
        repeat' (first | (refine O_ef rfl (Ef_call (I := []) WideF.wide (hs) ⟨rfl, trivial⟩ rfl ?_); rintro v H1 I1 hle1 ⟨a1, n1, c1, rfl, r1, rfl⟩); have hn1 := r1.n_eq | (refine O_ev WideF.wide rfl (Ev_mini rfl rfl) rfl rfl ?_; rw [hm2]) | (refine O_ev WideF.wide rfl (Ev_lsliceh rfl rfl (by omega) (by omega)) rfl rfl ?_; rw [Int.toNat_natCast]) | (refine O_ef rfl (Ef_call (I := []) WideF.wide (hF _ hle1 _ _ _ r1 (by omega)) ⟨rfl, rfl, rfl, trivial⟩ rfl ?_); rintro v H2 I2 hle2 ⟨rfl, rfl⟩) | (refine O_ef rfl (Ef_call (I := []) WideF.wide (hk _ (hle1.trans hle2)) trivial rfl ?_); rintro v H3 I3 hle3 ⟨rfl, rfl⟩) | (refine O_ef rfl (Ef_call (I := []) WideF.wide (hC _ _ _ _ (r1.mono (hle2.trans hle3)) (by omega)) ⟨rfl, trivial⟩ rfl ?_); rintro v H4 I4 hle4 ⟨rfl, rfl⟩) | refine O_nil ?_ | refine A_seq ?_ | refine A_region ?_ | refine A_skip ?_ | refine A_ret ?_ | (show opsA _ _ _ _ _ _ _; first | (refine O_split rfl rfl (fun h => ?_) (fun h => ?_) <;> try (exfalso; omega)) | refine O_ev WideF.wide rfl (Ev_pure rfl) rfl rfl ?_ | (show opsA _ _ _ _ (⟨_, .call _, _, _, _, _⟩ :: _) _ _; refine O_ev WideF.wide rfl (Ev_llen rfl) rfl rfl ?_) | (show opsA _ _ _ _ (⟨_, .binOp _ _ _ _ _, _, _, _, _⟩ :: _) _ _; refine O_ev WideF.wide rfl (Ev_seql rfl rfl) rfl rfl ?_) | (show opsA _ _ _ _ (⟨_, .unOp _ _ _, _, _, _, _⟩ :: _) _ _; refine O_ev WideF.wide rfl (Ev_notb rfl) rfl rfl ?_)) | (show wpA _ _ _ (.cond _ _ _) _ _ _ _; first | (refine A_if rfl (fun h => ?_) (fun h => ?_) <;> try (exfalso; omega)) | refine A_iffalse rfl ?_))
        all_goals first
          | exact End_e (Ret1 rfl rfl) ⟨rfl, rfl⟩
          | (exfalso; omega)
          | (exfalso; exact absurd trivial (by assumption))
      · obtain ⟨k, rfl⟩ : ∃ k : Nat, q = k + 1 := ⟨(q - 1).toNat, by omega⟩
        obtain ⟨x, hxk⟩ : ∃ x, sl[k]? = some x := ⟨_, List.getElem?_eq_getElem (by omega)⟩
        have hk1 : (k : Int) + 1 - 1 = (k : Int) := by omega
        rw [fillE_ok hck hxk (by omega)] at hF
        obtain ⟨_, _, hct⟩ := (chkLv_ok hck).2.2 k x hxk
        have h200 := fillS_200 hct (fmts sl) ms
        have hin := parts_in hct
        obtain ⟨ht1, ht2, ht3, ht4, ht5⟩ := chkT_ok hct
        have hP := fun Hx => rParse10_fn (H := Hx) (s := x.tpl) (by omega)
        unfold ParseH at hP
        have hpl := parts_len (s := x.tpl)
        generalize tplE x.tpl = t at *
        obtain ⟨ps, e⟩ := t
        dsimp only at hF hP hin ht1 ht4 ht5 h200 hpl
        subst ht1
        have hR := fun Hx (hl : HLe H Hx) a n c (h : HRow Hx a n c 4 (sl.map lvrow)) (hn : n < 68719476736) (hnn : (k : Int) + 1 ≤ n) a1 n1 c1 (h1 : HRow Hx a1 n1 c1 3 (ps.map prow)) (hn1 : n1 < 68719476736) =>
          rFill_fn h hn h1 hn1 (hns'.mono hl) (by omega) (fun p hp => by have := hin p hp; omega) (by omega)
        refine Fn_of _ _ Tryz.func5 rfl Tryz.ntmps5 rfl fun c => ?_
        repeat' (first | (refine O_ef rfl (Ef_call (I := []) WideF.wide (hs) ⟨rfl, trivial⟩ rfl ?_); rintro v H1 I1 hle1 ⟨a1, n1, c1, rfl, r1, rfl⟩); have hn1 := r1.n_eq | (refine O_ev WideF.wide rfl (Ev_mini rfl rfl) rfl rfl ?_; rw [hm2]) | (refine O_ev WideF.wide rfl (Ev_lsliceh rfl rfl (by omega) (by omega)) rfl rfl ?_; rw [Int.toNat_natCast]) | (refine O_ef rfl (Ef_call (I := []) WideF.wide (hF _ hle1 _ _ _ r1 (by omega)) ⟨rfl, rfl, rfl, trivial⟩ rfl ?_); rintro v H2 I2 hle2 ⟨rfl, rfl⟩) | (refine O_ef rfl (Ef_call (I := []) WideF.wide (hk _ (hle1.trans hle2)) trivial rfl ?_); rintro v H3 I3 hle3 ⟨rfl, rfl⟩) | (refine O_ef rfl (Ef_call (I := []) WideF.wide (hC _ _ _ _ (r1.mono (hle2.trans hle3)) (by omega)) ⟨rfl, trivial⟩ rfl ?_); rintro v H4 I4 hle4 ⟨rfl, rfl⟩); have r1 := r1.mono ((hle2.trans hle3).trans hle4); obtain ⟨b, o, y, rfl, hyi, hcy⟩ := r1.atm k (by omega); rw [hxk] at hyi; cases hyi; unfold lvrow at hcy | (refine O_ev WideF.wide rfl (Ev_sub rfl rfl (wi64 (by omega))) rfl rfl ?_; rw [hk1]) | (refine O_ev WideF.wide rfl (Ev_loadH1 rfl (hcy 2 _ rfl)) rfl rfl ?_) | (refine O_ef rfl (Ef_call (I := []) WideF.wide (hP _) ⟨rfl, trivial⟩ rfl ?_); rintro v H5 I5 hle5 ⟨a5, n5, c5, rfl, r5, rfl⟩); have hn5 := r5.n_eq | (refine O_ef rfl (Ef_call (I := []) WideF.wide (hR _ ((((hle1.trans hle2).trans hle3).trans hle4).trans hle5) _ _ _ (r1.mono hle5) (by omega) (by omega) _ _ _ r5 (by omega)) ⟨rfl, rfl, rfl, trivial⟩ rfl ?_); rintro v H6 I6 hle6 ⟨rfl, rfl⟩) | (refine O_ev WideF.wide rfl (Ev_seqs rfl rfl) rfl rfl ?_) | refine O_nil ?_ | refine A_seq ?_ | refine A_region ?_ | refine A_skip ?_ | refine A_ret ?_ | (show opsA _ _ _ _ _ _ _; first | (refine O_split rfl rfl (fun h => ?_) (fun h => ?_) <;> try (exfalso; omega)) | refine O_ev WideF.wide rfl (Ev_pure rfl) rfl rfl ?_ | (show opsA _ _ _ _ (⟨_, .indexAddr _ _ _, _, _, _, _⟩ :: _) _ _; refine O_ev WideF.wide rfl (Ev_indexAddr rfl rfl (by omega) (by omega)) rfl rfl ?_) | (show opsA _ _ _ _ (⟨_, .fieldAddr _ _ _, _, _, _, _⟩ :: _) _ _; refine O_ev WideF.wide rfl (Ev_fieldAddr rfl rfl rfl) rfl rfl ?_) | (show opsA _ _ _ _ (⟨_, .call _, _, _, _, _⟩ :: _) _ _; first | refine O_ev WideF.wide rfl (Ev_llen rfl) rfl rfl ?_ | refine O_ev WideF.wide rfl (Ev_slen rfl) rfl rfl ?_) | (show opsA _ _ _ _ (⟨_, .unOp _ _ _, _, _, _, _⟩ :: _) _ _; refine O_ev WideF.wide rfl (Ev_notb rfl) rfl rfl ?_)) | (show wpA _ _ _ (.cond _ _ _) _ _ _ _; first | (refine A_if rfl (fun h => ?_) (fun h => ?_) <;> try (exfalso; omega)) | refine A_iffalse rfl ?_))
        all_goals first
          | exact End_e (Ret1 rfl rfl) ⟨rfl, rfl⟩
          | exact End_e (Ret1 rfl rfl) ⟨congrArg Value.bool (decide_eq_true (by omega)), rfl⟩
          | (exfalso; omega)
          | (exfalso; exact absurd trivial (by assumption))
  · have hfe : fillE sl q ms = ([], chkLv sl) := by
      have : lvE sl q = chkLv sl := by unfold lvE; rw [if_pos hck]
      unfold fillE; rw [this, if_pos hck]
    rw [hfe] at hF
    dsimp only at hF
    generalize chkLv sl = e at *
    refine Fn_of _ _ Tryz.func5 rfl Tryz.ntmps5 rfl fun c => ?_
    repeat' (first | (refine O_ef rfl (Ef_call (I := []) WideF.wide (hs) ⟨rfl, trivial⟩ rfl ?_); rintro v H1 I1 hle1 ⟨a1, n1, c1, rfl, r1, rfl⟩); have hn1 := r1.n_eq | (refine O_ev WideF.wide rfl (Ev_mini rfl rfl) rfl rfl ?_; rw [hm2]) | (refine O_ev WideF.wide rfl (Ev_lsliceh rfl rfl (by omega) (by omega)) rfl rfl ?_; rw [Int.toNat_natCast]) | (refine O_ef rfl (Ef_call (I := []) WideF.wide (hF _ hle1 _ _ _ r1 (by omega)) ⟨rfl, rfl, rfl, trivial⟩ rfl ?_); rintro v H2 I2 hle2 ⟨rfl, rfl⟩) | (refine O_ef rfl (Ef_call (I := []) WideF.wide (hk _ (hle1.trans hle2)) trivial rfl ?_); rintro v H3 I3 hle3 ⟨rfl, rfl⟩) | (refine O_ef rfl (Ef_call (I := []) WideF.wide (hC _ _ _ _ (r1.mono (hle2.trans hle3)) (by omega)) ⟨rfl, trivial⟩ rfl ?_); rintro v H4 I4 hle4 ⟨rfl, rfl⟩) | (refine O_ev WideF.wide rfl (Ev_eqis rfl rfl) rfl rfl ?_) | refine O_nil ?_ | refine A_seq ?_ | refine A_region ?_ | refine A_skip ?_ | refine A_ret ?_ | (show opsA _ _ _ _ _ _ _; first | (refine O_split rfl rfl (fun h => ?_) (fun h => ?_) <;> try (exfalso; omega)) | refine O_ev WideF.wide rfl (Ev_pure rfl) rfl rfl ?_ | (show opsA _ _ _ _ (⟨_, .call _, _, _, _, _⟩ :: _) _ _; refine O_ev WideF.wide rfl (Ev_llen rfl) rfl rfl ?_) | (show opsA _ _ _ _ (⟨_, .binOp _ _ _ _ _, _, _, _, _⟩ :: _) _ _; refine O_ev WideF.wide rfl (Ev_seql rfl rfl) rfl rfl ?_) | (show opsA _ _ _ _ (⟨_, .unOp _ _ _, _, _, _, _⟩ :: _) _ _; refine O_ev WideF.wide rfl (Ev_notb rfl) rfl rfl ?_) | refine O_skip WideF.wide rfl rfl rfl ?_) | (show wpA _ _ _ (.cond _ _ _) _ _ _ _; first | (refine A_if rfl (fun h => ?_) (fun h => ?_) <;> try (exfalso; omega)) | refine A_iffalse rfl ?_))
    all_goals first
      | exact End_e (Ret1 rfl rfl) ⟨rfl, rfl⟩
      | (exfalso; omega)
      | (exfalso; exact absurd trivial (by assumption))
end Go.Proofs.YtaneeaojlkenmaaGreatDoor
