/-
  The law's parts and cut; the reference's Print; the levels that parts use; Check and CheckLevels, both.
-/
import Derived.Test.YtaneeaojlkenmaaGreatDoorL10
namespace Go.Proofs.YtaneeaojlkenmaaGreatDoor
open Go
set_option linter.unusedVariables false
set_option linter.unusedSimpArgs false
/-- parts that were handed back -/
def PtsIs (l : List Pt) (v : Value) (H : Hp) (I : Own) : Prop := ∃ a n c, v = .slice a n c ∧ HRow H a n c 3 (l.map prow) ∧ I = []
def irow (x : Int) : List Value := [.int .i64 x]
theorem irow_one (l : List Int) : ∀ cs ∈ l.map irow, ∀ u ∈ cs, u.oneCell' = true := by
  intro cs hcs u hu
  obtain ⟨p, _, rfl⟩ := List.mem_map.1 hcs
  simp [irow] at hu
  subst hu; rfl
def IntsIs (l : List Int) (v : Value) (H : Hp) (I : Own) : Prop := ∃ a n c, v = .slice a n c ∧ HRow H a n c 1 (l.map irow) ∧ I = []
theorem isnoc_row {acc : List Int} (p : Int) : acc.map irow ++ [[.int .i64 p]] = (acc ++ [p]).map irow := by rw [List.map_append]; rfl
theorem drop_get {α : Type} {l : List α} {i : Nat} {x : α} (h : l[i]? = some x) : l.drop i = x :: l.drop (i + 1) := by
  obtain ⟨h', e⟩ := List.getElem?_eq_some_iff.1 h
  rw [List.drop_eq_getElem_cons h', e]
/-- the levels that parts use -/
def usedUp (l : List Pt) (k : Nat) : List Int := ((List.range k).map fun j : Nat => ((j : Int) + 1)).filter fun v => decide (∃ p ∈ l, p.lev = v)
def usedL (l : List Pt) : List Int := usedUp l 9
theorem usedUp_succ (l : List Pt) (k : Nat) : usedUp l (k + 1) = usedUp l k ++ (if ∃ p ∈ l, p.lev = (k : Int) + 1 then [(k : Int) + 1] else []) := by
  unfold usedUp
  rw [List.range_succ, List.map_append, List.filter_append]
  congr 1
  simp only [List.map_cons, List.map_nil, List.filter_cons, List.filter_nil, decide_eq_true_eq]
theorem usedUp_le {l : List Pt} {k : Nat} : ∀ x ∈ usedUp l k, 1 ≤ x ∧ x ≤ k := by
  intro x hx
  unfold usedUp at hx
  obtain ⟨h, _⟩ := List.mem_filter.1 hx
  obtain ⟨j, hj, rfl⟩ := List.mem_map.1 h
  rw [List.mem_range] at hj
  omega
theorem usedUp_len (l : List Pt) (k : Nat) : (usedUp l k).length ≤ k := by
  unfold usedUp
  refine Nat.le_trans (List.length_filter_le _ _) ?_
  simp
theorem mem_usedL {l : List Pt} {x : Int} : x ∈ usedL l ↔ 1 ≤ x ∧ x ≤ 9 ∧ ∃ p ∈ l, p.lev = x := by
  unfold usedL usedUp
  rw [List.mem_filter, List.mem_map]
  simp only [List.mem_range, decide_eq_true_eq]
  constructor
  · rintro ⟨⟨j, hj, rfl⟩, h⟩; exact ⟨by omega, by omega, h⟩
  · rintro ⟨h1, h2, h⟩; exact ⟨⟨(x - 1).toNat, by omega, by omega⟩, h⟩
theorem usedL_inc (l : List Pt) : (usedL l).Pairwise (· < ·) := by
  unfold usedL usedUp
  refine List.Pairwise.filter _ ?_
  rw [List.pairwise_map]
  exact (List.pairwise_lt_range (n := 9)).imp fun h => by omega
theorem goR_step (s : List UInt8) (p : Pt) (r : List Pt) : goR s (p :: r) = if s.length ≤ 64 then goR (s ++ wrtR p) r else s := rfl
theorem fill_all (p : Pt) : fillL [(0, 1), (1, 1), (2, 1)] [(0, sv p.lit), (1, .int .i64 p.lev), (2, .bool p.plain)] [Value.string ⟨#[]⟩, .int .i64 0, .bool false] = prow p := rfl
def curL (l : List Pt) (k i : Nat) : List Int := usedUp l k ++ (if ∃ p ∈ l.take i, p.lev = (k : Int) + 1 then [(k : Int) + 1] else [])
theorem curL_zero (l : List Pt) (k : Nat) : curL l k 0 = usedUp l k := by unfold curL; simp
theorem curL_full {l : List Pt} {k i : Nat} (h : l.length ≤ i) : curL l k i = usedUp l (k + 1) := by unfold curL; rw [List.take_of_length_le h, usedUp_succ]
theorem curL_no {l : List Pt} {k i : Nat} {p : Pt} (hp : l[i]? = some p) (h : p.lev ≠ (k : Int) + 1) : curL l k (i + 1) = curL l k i := by
  unfold curL
  rw [take_get hp]
  have : (∃ q ∈ l.take i ++ [p], q.lev = (k : Int) + 1) ↔ ∃ q ∈ l.take i, q.lev = (k : Int) + 1 := by
    simp only [List.mem_append, List.mem_singleton]
    constructor
    · rintro ⟨q, hq | rfl, h2⟩
      · exact ⟨q, hq, h2⟩
      · exact absurd h2 h
    · rintro ⟨q, hq, h2⟩; exact ⟨q, .inl hq, h2⟩
  by_cases h3 : ∃ q ∈ l.take i, q.lev = (k : Int) + 1
  · rw [if_pos (this.2 h3), if_pos h3]
  · rw [if_neg (fun h => h3 (this.1 h)), if_neg h3]
theorem curL_old {l : List Pt} {k i : Nat} {p : Pt} (hp : l[i]? = some p) (h : ∃ q ∈ l.take i, q.lev = (k : Int) + 1) : curL l k (i + 1) = curL l k i ∧ ∃ c, curL l k i = c ++ [(k : Int) + 1] := by
  unfold curL
  have : ∃ q ∈ l.take (i + 1), q.lev = (k : Int) + 1 := by
    obtain ⟨q, hq, h2⟩ := h
    exact ⟨q, by rw [take_get hp]; exact List.mem_append_left _ hq, h2⟩
  rw [if_pos this, if_pos h]
  exact ⟨rfl, _, rfl⟩
theorem curL_new {l : List Pt} {k i : Nat} {p : Pt} (hp : l[i]? = some p) (hk : p.lev = (k : Int) + 1) (h : ¬ ∃ q ∈ l.take i, q.lev = (k : Int) + 1) : curL l k (i + 1) = curL l k i ++ [(k : Int) + 1] ∧ ∀ x ∈ curL l k i, x ≠ (k : Int) + 1 := by
  unfold curL
  have : ∃ q ∈ l.take (i + 1), q.lev = (k : Int) + 1 := ⟨p, by rw [take_get hp]; simp, hk⟩
  rw [if_pos this, if_neg h, List.append_nil]
  exact ⟨rfl, fun x hx => by have := usedUp_le x hx; omega⟩
theorem curL_len (l : List Pt) (k i : Nat) : (curL l k i).length ≤ k + 1 := by
  unfold curL
  have := usedUp_len l k
  rw [List.length_append]
  split <;> simp <;> omega
/-- the error of a template for a level -/
def chkT (s : List UInt8) (level : Int) : Int := if level < 1 ∨ 9 < level then 2 else if (tplE s).2 ≠ 0 then (tplE s).2 else if ∃ p ∈ (tplE s).1, level < p.lev then 6 else 0
/-- .. of the levels of a list -/
def chkGo : Nat → List Lv → Int
  | _, [] => 0
  | i, x :: r => if x.fmt < 1 ∨ 7 < x.fmt then 3 else if x.start < 0 ∨ 32767 < x.start then 2 else if chkT x.tpl (i + 1) ≠ 0 then chkT x.tpl (i + 1) else if x.restart < 0 ∨ (i : Int) < x.restart then 5 else chkGo (i + 1) r
def chkLv (l : List Lv) : Int := if l.length = 0 then 11 else if 9 < l.length then 9 else chkGo 0 l
theorem chkGo_cons (i : Nat) (x : Lv) (r : List Lv) : chkGo i (x :: r) = if x.fmt < 1 ∨ 7 < x.fmt then 3 else if x.start < 0 ∨ 32767 < x.start then 2 else if chkT x.tpl (i + 1) ≠ 0 then chkT x.tpl (i + 1) else if x.restart < 0 ∨ (i : Int) < x.restart then 5 else chkGo (i + 1) r := rfl
theorem parts_ok {s : List UInt8} : ∀ p ∈ (tplE s).1, PartOk p := by
  intro p hp
  by_cases h : (tplE s).2 = 0
  · have e : tplE s = ((tplE s).1, 0) := by rw [← h]
    exact norm_ok (tplE_norm e).2 p hp
  · rw [tplE_nil h] at hp; cases hp
/-- the last of the levels that are used -/
theorem last_used {l : List Pt} (hok : ∀ p ∈ l, PartOk p) {q : Int} (hq : 1 ≤ q) : (∃ p ∈ l, q < p.lev) ↔ ∃ y, (usedL l)[(usedL l).length - 1]? = some y ∧ q < y := by
  constructor
  · rintro ⟨p, hp, h⟩
    have hm : p.lev ∈ usedL l := mem_usedL.2 ⟨by omega, by rcases hok p hp with h1 | h1 <;> omega, p, hp, rfl⟩
    obtain ⟨j, hj, e⟩ := List.getElem_of_mem hm
    refine ⟨(usedL l)[(usedL l).length - 1]'(by omega), List.getElem?_eq_getElem _, ?_⟩
    by_cases hjl : j = (usedL l).length - 1
    · subst hjl; rw [e]; exact h
    · have := List.pairwise_iff_getElem.1 (usedL_inc l) j ((usedL l).length - 1) hj (by omega) (by omega)
      rw [e] at this
      omega
  · rintro ⟨y, hy, h⟩
    obtain ⟨_, _, p, hp, rfl⟩ := mem_usedL.1 (List.mem_of_getElem? hy)
    exact ⟨p, hp, h⟩
attribute [local irreducible] wpA opsA drJ drQ drE Ef Ev Shift Fn
set_option maxRecDepth 100000 in
theorem lcut_fn {H : Hp} {s : List UInt8} (hs : s.length < 1099511627776) : FnP Tryz.prog 13 [sv s] H (sv (s.take 80)) := by
  have e : s.take (if (80 : Int) < (s.length : Int) then (80 : Int) else (s.length : Int)).toNat = s.take 80 := by
    split
    · rfl
    · rw [List.take_of_length_le (by omega), List.take_of_length_le (by omega)]
  refine Fn_of _ _ Tryz.func13 rfl Tryz.ntmps13 rfl fun c => ?_
  repeat' (first | (refine O_ev WideF.wide rfl (Ev_mini rfl rfl) rfl rfl ?_) | (refine O_ev WideF.wide rfl (Ev_ssliceh rfl rfl (by split <;> omega) (by split <;> omega)) rfl rfl ?_; rw [e]) | refine O_nil ?_ | refine A_seq ?_ | refine A_region ?_ | refine A_ret ?_ | (show opsA _ _ _ _ _ _ _; first | refine O_ev WideF.wide rfl (Ev_pure rfl) rfl rfl ?_ | (show opsA _ _ _ _ (⟨_, .call _, _, _, _, _⟩ :: _) _ _; refine O_ev WideF.wide rfl (Ev_slen rfl) rfl rfl ?_)))
  exact End_p (Ret1 rfl rfl) rfl
set_option maxRecDepth 100000 in
theorem parts_fn {H : Hp} {a : Option Addr} {n cq : Nat} {l : List Pt} (hx : HRow H a n cq 3 (l.map prow)) (hn : n < 68719476736) : Fn Tryz.prog 18 [.slice a n cq] H [] (PtsIs l) := by
  have e1 : l.length = n := by have := hx.len; simpa using this
  refine Fn_of _ _ Tryz.func18 rfl Tryz.ntmps18 rfl fun c => ?_
  refine A_nilrow 3 ?_
  repeat' (first | refine O_nil ?_ | refine A_seq ?_ | refine A_region ?_ | refine A_block ?_ | (show opsA _ _ _ _ _ _ _; refine O_ev WideF.wide rfl (Ev_pure rfl) rfl rfl ?_))
  refine A_loopu (fun m st => ∃ (i : Nat) (a' : Option Addr) (c' : Nat) (H1 : Hp), m = n - i ∧ i ≤ n ∧ HLe H H1 ∧ st = ⟨31, [(0, .slice a n cq), (3, .slice a' (l.take i).length c'), (4, .int .i64 i)], H1, [.row (.slice a' (l.take i).length c') 3 ((l.take i).map prow)], [], []⟩) ?_ ?_
  · exact Shift.to ⟨_, 0, none, 0, H, rfl, by omega, HLe.refl H, rfl⟩ ⟨rfl, rfl, rfl, ⟨rfl, rfl, rfl, trivial⟩, Own.subi [0] (by decide) rfl rfl⟩
  · rintro m st ⟨i, a', c', H1, rfl, hi, hl1, rfl⟩
    by_cases hlt : i < n
    · obtain ⟨b, o, p, rfl, hpi, hc⟩ := hx.atm i hlt
      have hc := hc.mono hl1
      have hti : (l.take i).length = i := by rw [List.length_take]; omega
      unfold prow at hc
      repeat' (first | (refine A_drawM WideF.wide (.p 0 (.p 1 (.p 2 (.p 3 (.q 4 (.q 5 (.p 6 (.p 7 (.p 8 (.q 9 (.q 10 (.p 11 (.p 12 (.p 13 (.q 14 (.q 15 (.r (.q 16 (.e 17 (.e 18 (.q 19 (.done [])))))))))))))))))))))) [16, 17, 18, 19] (by decide +kernel) ?_) | refine O_nil ?_ | refine A_seq ?_ | refine A_region ?_ | refine A_skip ?_ | refine A_block ?_ | (show drJ _ _ _ _ _ _ _ (.q _ _) _; refine D_q rfl ?_) | (show drJ _ _ _ _ _ _ _ (.e _ _) _; refine D_e rfl ?_) | (show drJ _ _ _ _ _ _ _ (.r _) _; refine D_r ?_; simp only [List.cons_append, List.nil_append]) | (show drJ _ _ _ _ _ _ _ (.done _) _; refine D_done ?_; simp only [List.cons_append, List.nil_append]) | (show drQ _ _ _ _ _ _; first | refine D_ev rfl (Ev_pure rfl) rfl rfl ?_ | (show drQ _ _ _ ⟨_, .load _ _, _, _, _, _⟩ _ _; first | refine D_ev rfl (Ev_loadH1 rfl (hc 0 _ rfl)) rfl rfl ?_ | refine D_ev rfl (Ev_loadH1 rfl (hc 1 _ rfl)) rfl rfl ?_ | refine D_ev rfl (Ev_loadH1 rfl (hc 2 _ rfl)) rfl rfl ?_) | (show drQ _ _ _ ⟨_, .fieldAddr _ _ _, _, _, _, _⟩ _ _; refine D_ev rfl (Ev_fieldAddr rfl rfl rfl) rfl rfl ?_) | (show drQ _ _ _ ⟨_, .build _ _, _, _, _, _⟩ _ _; refine D_ev rfl (Ev_build (vs := [(_, _), (_, _), (_, _)]) ⟨rfl, rfl, rfl, rfl, rfl, rfl, trivial⟩ rfl) rfl rfl ?_)) | (show drJ _ _ _ _ _ _ _ (.p _ _) _; refine D_p rfl ?_) | (show drP _ _ _ _ _ _; first | refine D_pv rfl (Ev_pure rfl) rfl rfl ?_ | (show drP _ _ _ ⟨_, .indexAddr _ _ _, _, _, _, _⟩ _ _; refine D_pv rfl (Ev_indexAddr rfl rfl (by omega) (by omega)) rfl rfl ?_)) | (show drE _ _ _ _ _ _ _; first | (show drE _ _ _ _ ⟨_, .call _, _, _, _, _⟩ _ _; (refine E_ef rfl (Ef_f1 (Ef_appendR WideF.wide rfl rfl rfl rfl rfl (by simp; omega) (by simp; omega) rfl ?_)); intro a cp; refine ⟨Grow.same rfl rfl, ?_⟩)) | (show drE _ _ _ _ ⟨_, .buildSlice _ _ _, _, _, _, _⟩ _ _; (refine E_ef rfl (Ef_build1a WideF.wide rfl rfl rfl rfl rfl ?_); intro b; refine ⟨Grow.same rfl rfl, ?_⟩))) | (show opsA _ _ _ _ _ _ _; first | refine O_ev WideF.wide rfl (Ev_pure rfl) rfl rfl ?_ | (show opsA _ _ _ _ (⟨_, .call _, _, _, _, _⟩ :: _) _ _; refine O_ev WideF.wide rfl (Ev_llen rfl) rfl rfl ?_) | (show opsA _ _ _ _ (⟨_, .binOp _ _ _ _ _, _, _, _, _⟩ :: _) _ _; refine O_ev WideF.wide rfl (Ev_add rfl rfl (wi64 (by omega))) rfl rfl ?_)) | (show wpA _ _ _ (.cond _ _ _) _ _ _ _; (refine A_if rfl (fun h => ?_) (fun h => ?_) <;> try (exfalso; omega))))
      all_goals try (exfalso; omega)
      rw [fill_all, snoc_row p rfl, List.length_map, ← take_get hpi]
      refine Shift.to ⟨_, ?_, i + 1, _, _, H1, rfl, by omega, hl1, rfl⟩ ⟨rfl, rfl, rfl, ⟨rfl, rfl, rfl, trivial⟩, Own.subi [0] (by decide) rfl rfl⟩
      omega
    · rw [List.take_of_length_le (by omega)]
      repeat' (first | refine O_nil ?_ | refine A_seq ?_ | refine A_region ?_ | refine A_ret ?_ | (show opsA _ _ _ _ _ _ _; first | refine O_ev WideF.wide rfl (Ev_pure rfl) rfl rfl ?_ | (show opsA _ _ _ _ (⟨_, .call _, _, _, _, _⟩ :: _) _ _; refine O_ev WideF.wide rfl (Ev_llen rfl) rfl rfl ?_)) | (show wpA _ _ _ (.exit _) _ _ _ _; refine A_exit rfl ?_) | (show wpA _ _ _ (.cond _ _ _) _ _ _ _; (refine A_if rfl (fun h => ?_) (fun h => ?_) <;> try (exfalso; omega))))
      all_goals try (exfalso; omega)
      exact End_row (Ret1 rfl rfl) (prow_one _) fun H' hle hr => ⟨_, _, _, rfl, hr, rfl⟩
set_option maxRecDepth 100000 in
set_option maxHeartbeats 1000000 in
theorem rPrint_fn {H : Hp} {a : Option Addr} {n cq : Nat} {l : List Pt} (hx : HRow H a n cq 3 (l.map prow)) (hn : n ≤ 1000) (hl : ∀ p ∈ l, p.lit.length ≤ 1000 ∧ I64 p.lev) :
    Fn Tryz.prog 32 [.slice a n cq] H [] fun v _ I => v = prtV l ∧ I = [] := by
  have e1 : l.length = n := by have := hx.len; simpa using this
  refine Fn_of _ _ Tryz.func32 rfl Tryz.ntmps32 rfl fun c => ?_
  repeat' (first | refine O_nil ?_ | refine A_seq ?_ | refine A_region ?_ | refine A_block ?_ | (show opsA _ _ _ _ _ _ _; refine O_ev WideF.wide rfl (Ev_pure rfl) rfl rfl ?_))
  refine A_loopu (fun m st => ∃ (i : Nat) (s : List UInt8) (H1 : Hp), m = n - i ∧ i ≤ n ∧ HLe H H1 ∧ s.length ≤ 3000 ∧ goR [] l = goR s (l.drop i) ∧ st = ⟨40, [(0, .slice a n cq), (4, sv s), (5, .int .i64 i)], H1, [], [], []⟩) ?_ ?_
  · exact Shift.to ⟨_, 0, [], H, rfl, by omega, HLe.refl H, by simp, by rw [List.drop_zero], rfl⟩ ⟨rfl, rfl, rfl, ⟨rfl, rfl, rfl, trivial⟩, Own.sub_nil _⟩
  · rintro m st ⟨i, s, H1, rfl, hi, hl1, hsl, hg, rfl⟩
    by_cases hlt : i < n ∧ s.length ≤ 64
    · obtain ⟨b, o, p, rfl, hpi, hc⟩ := hx.atm i hlt.1
      have hc := hc.mono hl1
      have hpp := hl p (List.mem_of_getElem? hpi)
      have hw := fun Hx => written_fn (H := Hx) hpp.1 hpp.2
      have hwl : (wrtR p).length ≤ 2022 := by
        unfold wrtR
        split
        · simp
        · unfold wrt
          split
          · have := esc_len p.lit; omega
          · unfold plc; rw [List.length_append]; split <;> simp
      rw [drop_get hpi] at hg
      rw [goR_step, if_pos hlt.2] at hg
      repeat' (first | (refine O_ev WideF.wide rfl (Ev_loadH rfl hc rfl) rfl rfl ?_) | (refine O_ef rfl (Ef_call (I := []) WideF.wide (hw _) ⟨rfl, trivial⟩ rfl ?_); rintro v H2 I2 hle2 ⟨rfl, rfl⟩) | refine O_nil ?_ | refine A_seq ?_ | refine A_region ?_ | refine A_skip ?_ | refine A_block ?_ | (show opsA _ _ _ _ _ _ _; first | (refine O_split rfl rfl (fun h => ?_) (fun h => ?_) <;> try (exfalso; omega)) | refine O_ev WideF.wide rfl (Ev_pure rfl) rfl rfl ?_ | (show opsA _ _ _ _ (⟨_, .indexAddr _ _ _, _, _, _, _⟩ :: _) _ _; refine O_ev WideF.wide rfl (Ev_indexAddr rfl rfl (by omega) (by omega)) rfl rfl ?_) | (show opsA _ _ _ _ (⟨_, .call _, _, _, _, _⟩ :: _) _ _; first | refine O_ev WideF.wide rfl (Ev_llen rfl) rfl rfl ?_ | refine O_ev WideF.wide rfl (Ev_slen rfl) rfl rfl ?_) | (show opsA _ _ _ _ (⟨_, .binOp _ _ _ _ _, _, _, _, _⟩ :: _) _ _; first | refine O_ev WideF.wide rfl (Ev_add rfl rfl (wi64 (by omega))) rfl rfl ?_ | refine O_ev WideF.wide rfl (Ev_scat rfl rfl (by omega)) rfl rfl ?_)) | (show wpA _ _ _ (.cond _ _ _) _ _ _ _; (refine A_if rfl (fun h => ?_) (fun h => ?_) <;> try (exfalso; omega))))
      all_goals try (exfalso; omega)
      refine Shift.to ⟨_, ?_, i + 1, s ++ wrtR p, _, rfl, by omega, hl1.trans hle2, by rw [List.length_append]; omega, hg, rfl⟩ ⟨rfl, rfl, rfl, ⟨rfl, rfl, rfl, trivial⟩, Own.sub_nil _⟩
      omega
    · have hs : goR [] l = s := by
        rw [hg]
        by_cases hin : i < n
        · exact goR_stop (by omega)
        · rw [List.drop_eq_nil_of_le (by omega)]; rfl
      have hv : prtV l = .tuple [sv (prtR l).1, .int .i64 (prtR l).2].toArray := by unfold prtV; rw [prt_same]
      have hp := fun Hx => rParse10_fn (H := Hx) (s := s) (by omega)
      unfold ParseH at hp
      rw [hv]
      unfold prtR
      rw [hs]
      have hsm := fun Hx (hle : HLe H Hx) a1 n1 c1 (h1 : HRow Hx a1 n1 c1 3 ((tplE s).1.map prow)) (hn1 : n1 < 68719476736) => Same_fn (H := Hx) h1 (hx.mono hle) hn1
      have hpl := parts_len (s := s)
      by_cases h : tplE s = (l, 0)
      · rw [if_pos h]
        rw [h] at hp hsm
        dsimp only at hp hsm
        simp only [decide_true] at hsm
        repeat' (first | (refine O_ef rfl (Ef_call (I := []) WideF.wide (hp _) ⟨rfl, trivial⟩ rfl ?_); rintro v H2 I2 hle2 ⟨a1, n1, c1, rfl, hr, rfl⟩); have hn1 : n1 = n := (by have := hr.len; rw [List.length_map] at this; omega) | (refine O_ef rfl (Ef_callp WideF.wide (hsm _ (hl1.trans hle2) _ _ _ hr (by omega)) ⟨rfl, rfl, trivial⟩ rfl ?_)) | refine O_nil ?_ | refine A_seq ?_ | refine A_region ?_ | refine A_skip ?_ | refine A_ret ?_ | (show opsA _ _ _ _ _ _ _; first | (refine O_split rfl rfl (fun h => ?_) (fun h => ?_) <;> try (exfalso; omega)) | refine O_ev WideF.wide rfl (Ev_pure rfl) rfl rfl ?_ | (show opsA _ _ _ _ (⟨_, .call _, _, _, _, _⟩ :: _) _ _; first | refine O_ev WideF.wide rfl (Ev_llen rfl) rfl rfl ?_ | refine O_ev WideF.wide rfl (Ev_slen rfl) rfl rfl ?_) | (show opsA _ _ _ _ (⟨_, .unOp _ _ _, _, _, _, _⟩ :: _) _ _; refine O_ev WideF.wide rfl (Ev_notb rfl) rfl rfl ?_) | refine O_skip WideF.wide rfl rfl rfl ?_) | (show wpA _ _ _ (.exit _) _ _ _ _; refine A_exit rfl ?_) | (show wpA _ _ _ (.cond _ _ _) _ _ _ _; first | (refine A_if rfl (fun h => ?_) (fun h => ?_) <;> try (exfalso; omega)) | refine A_iffalse rfl ?_))
        all_goals first
          | (exfalso; omega)
          | exact End_e (Ret2 rfl rfl rfl) ⟨rfl, rfl⟩
      · rw [if_neg h]
        by_cases he : (tplE s).2 = 0
        · have hne : ¬ (tplE s).1 = l := fun e => h (Prod.ext e he)
          simp only [decide_eq_false hne] at hsm
          rw [he] at hp
          repeat' (first | (refine O_ef rfl (Ef_call (I := []) WideF.wide (hp _) ⟨rfl, trivial⟩ rfl ?_); rintro v H2 I2 hle2 ⟨a1, n1, c1, rfl, hr, rfl⟩); have hn1 : n1 < 1000000000 := (by have := hr.len; rw [List.length_map] at this; omega) | (refine O_ef rfl (Ef_callp WideF.wide (hsm _ (hl1.trans hle2) _ _ _ hr (by omega)) ⟨rfl, rfl, trivial⟩ rfl ?_)) | refine O_nil ?_ | refine A_seq ?_ | refine A_region ?_ | refine A_ret ?_ | (show opsA _ _ _ _ _ _ _; first | (refine O_split rfl rfl (fun h => ?_) (fun h => ?_) <;> try (exfalso; omega)) | refine O_ev WideF.wide rfl (Ev_pure rfl) rfl rfl ?_ | (show opsA _ _ _ _ (⟨_, .call _, _, _, _, _⟩ :: _) _ _; first | refine O_ev WideF.wide rfl (Ev_llen rfl) rfl rfl ?_ | refine O_ev WideF.wide rfl (Ev_slen rfl) rfl rfl ?_) | (show opsA _ _ _ _ (⟨_, .unOp _ _ _, _, _, _, _⟩ :: _) _ _; refine O_ev WideF.wide rfl (Ev_notb rfl) rfl rfl ?_) | refine O_skip WideF.wide rfl rfl rfl ?_) | (show wpA _ _ _ (.exit _) _ _ _ _; refine A_exit rfl ?_) | (show wpA _ _ _ (.cond _ _ _) _ _ _ _; first | (refine A_if rfl (fun h => ?_) (fun h => ?_) <;> try (exfalso; omega)) | refine A_iftrue rfl ?_ | refine A_iffalse rfl ?_))
          all_goals first
            | (exfalso; omega)
            | exact End_e (Ret2 rfl rfl rfl) ⟨rfl, rfl⟩
        · generalize (tplE s).2 = e at hp he
          repeat' (first | (refine O_ef rfl (Ef_call (I := []) WideF.wide (hp _) ⟨rfl, trivial⟩ rfl ?_); rintro v H2 I2 hle2 ⟨a1, n1, c1, rfl, hr, rfl⟩) | refine O_nil ?_ | refine A_seq ?_ | refine A_region ?_ | refine A_ret ?_ | (show opsA _ _ _ _ _ _ _; first | (refine O_split rfl rfl (fun h => ?_) (fun h => ?_) <;> try (exfalso; omega)) | refine O_ev WideF.wide rfl (Ev_pure rfl) rfl rfl ?_ | (show opsA _ _ _ _ (⟨_, .call _, _, _, _, _⟩ :: _) _ _; first | refine O_ev WideF.wide rfl (Ev_llen rfl) rfl rfl ?_ | refine O_ev WideF.wide rfl (Ev_slen rfl) rfl rfl ?_) | refine O_skip WideF.wide rfl rfl rfl ?_) | (show wpA _ _ _ (.exit _) _ _ _ _; refine A_exit rfl ?_) | (show wpA _ _ _ (.cond _ _ _) _ _ _ _; first | (refine A_if rfl (fun h => ?_) (fun h => ?_) <;> try (exfalso; omega)) | refine A_iftrue rfl ?_ | refine A_iffalse rfl ?_))
          all_goals first
            | (exfalso; omega)
            | exact End_e (Ret2 rfl rfl rfl) ⟨rfl, rfl⟩
abbrev inSt (H1 : Hp) (a : Option Addr) (n cq : Nat) (a' : Option Addr) (c' : Nat) (k i : Nat) (cur : List Int) : Sta := ⟨43, [(0, .slice a n cq), (3, .slice a' cur.length c'), (4, .int .i64 ((k : Int) + 1)), (5, .int .i64 i)], H1, [.row (.slice a' cur.length c') 1 (cur.map irow)], [], []⟩
set_option maxRecDepth 100000 in
set_option maxHeartbeats 2000000 in
theorem rUsed_fn {H : Hp} {a : Option Addr} {n cq : Nat} {l : List Pt} (hx : HRow H a n cq 3 (l.map prow)) (hn : n < 68719476736) : Fn Tryz.prog 29 [.slice a n cq] H [] (IntsIs (usedL l)) := by
  have e1 : l.length = n := by have := hx.len; simpa using this
  refine Fn_of _ _ Tryz.func29 rfl Tryz.ntmps29 rfl fun c => ?_
  refine A_nilrow 1 ?_
  repeat' (first | refine O_nil ?_ | refine A_seq ?_ | refine A_region ?_ | refine A_block ?_ | (show opsA _ _ _ _ _ _ _; refine O_ev WideF.wide rfl (Ev_pure rfl) rfl rfl ?_))
  refine A_loopu (fun m st => ∃ (k : Nat) (a' : Option Addr) (c' : Nat) (cur : List Int), m = 9 - k ∧ k ≤ 9 ∧ cur = usedUp l k ∧ st = ⟨43, [(0, .slice a n cq), (3, .slice a' cur.length c'), (4, .int .i64 ((k : Int) + 1))], H, [.row (.slice a' cur.length c') 1 (cur.map irow)], [], []⟩) ?_ ?_
  · exact Shift.to ⟨_, 0, none, 0, [], rfl, by omega, rfl, rfl⟩ ⟨rfl, rfl, rfl, ⟨rfl, rfl, rfl, trivial⟩, Own.subi [0] (by decide) rfl rfl⟩
  · rintro m st ⟨k, a', c', cur, rfl, hk, hcur, rfl⟩
    by_cases hlt : k < 9
    · repeat' (first | refine O_nil ?_ | refine A_seq ?_ | refine A_region ?_ | refine A_skip ?_ | refine A_block ?_ | (show opsA _ _ _ _ _ _ _; refine O_ev WideF.wide rfl (Ev_pure rfl) rfl rfl ?_) | (show wpA _ _ _ (.cond _ _ _) _ _ _ _; (refine A_if rfl (fun h => ?_) (fun h => ?_) <;> try (exfalso; omega))))
      all_goals try (exfalso; omega)
      refine A_loopu (fun m st => ∃ (i : Nat) (a' : Option Addr) (c' : Nat) (cur : List Int), m = n - i ∧ i ≤ n ∧ cur = curL l k i ∧ st = inSt H a n cq a' c' k i cur) ?_ ?_
      · exact Shift.to ⟨_, 0, a', c', cur, rfl, by omega, by rw [curL_zero]; exact hcur, rfl⟩ ⟨rfl, rfl, rfl, ⟨rfl, rfl, rfl, rfl, trivial⟩, Own.subi [0] (by decide) rfl rfl⟩
      · rintro m st ⟨i, a', c', cur, rfl, hi, hcur, rfl⟩
        have hcl := curL_len l k i
        rw [← hcur] at hcl
        by_cases hin : i < n
        · obtain ⟨b, o, p, rfl, hpi, hc⟩ := hx.atm i hin
          unfold prow at hc
          by_cases hpl : p.lev = (k : Int) + 1
          · refine A_rowaddr (q := 0) rfl ?_
            intro _ _ ha _ had
            by_cases hex : ∃ q ∈ l.take i, q.lev = (k : Int) + 1
            · obtain ⟨q1, c0, q2⟩ := curL_old hpi hex
              rw [← hcur] at q1 q2
              have hc1 : cur.length = c0.length + 1 := by rw [q2]; simp
              cases a' with
              | none => have := (ha rfl).1; rw [q2] at this; simp at this
              | some ad =>
                obtain ⟨b2, rfl⟩ := had ad rfl
                have hget : (cur.map irow)[c0.length]? = some [.int .i64 ((k : Int) + 1)] := by rw [q2, List.map_append, List.getElem?_append_right (by simp)]; simp [irow]
                repeat' (first | (refine O_ev WideF.wide rfl (Ev_loadR1 (q := 0) (d := 0) rfl rfl hget (by simp; omega) rfl) rfl rfl ?_) | refine O_nil ?_ | refine A_seq ?_ | refine A_region ?_ | refine A_skip ?_ | refine A_block ?_ | (show opsA _ _ _ _ _ _ _; first | (refine O_split rfl rfl (fun h => ?_) (fun h => ?_) <;> try (exfalso; omega)) | refine O_ev WideF.wide rfl (Ev_pure rfl) rfl rfl ?_ | (show opsA _ _ _ _ (⟨_, .load _ _, _, _, _, _⟩ :: _) _ _; refine O_ev WideF.wide rfl (Ev_loadH1 rfl (hc 1 _ rfl)) rfl rfl ?_) | (show opsA _ _ _ _ (⟨_, .indexAddr _ _ _, _, _, _, _⟩ :: _) _ _; refine O_ev WideF.wide rfl (Ev_indexAddr rfl rfl (by omega) (by omega)) rfl rfl ?_) | (show opsA _ _ _ _ (⟨_, .fieldAddr _ _ _, _, _, _, _⟩ :: _) _ _; refine O_ev WideF.wide rfl (Ev_fieldAddr rfl rfl rfl) rfl rfl ?_) | (show opsA _ _ _ _ (⟨_, .call _, _, _, _, _⟩ :: _) _ _; refine O_ev WideF.wide rfl (Ev_llen rfl) rfl rfl ?_) | (show opsA _ _ _ _ (⟨_, .binOp _ _ _ _ _, _, _, _, _⟩ :: _) _ _; first | refine O_ev WideF.wide rfl (Ev_add rfl rfl (wi64 (by omega))) rfl rfl ?_ | refine O_ev WideF.wide rfl (Ev_sub rfl rfl (wi64 (by omega))) rfl rfl ?_)) | (show wpA _ _ _ (.cond _ _ _) _ _ _ _; (refine A_if rfl (fun h => ?_) (fun h => ?_) <;> try (exfalso; omega))))
                all_goals try (exfalso; omega)
                refine Shift.to ⟨_, ?_, i + 1, _, c', cur, rfl, by omega, q1.symm, rfl⟩ ⟨rfl, rfl, rfl, ⟨rfl, rfl, rfl, rfl, trivial⟩, Own.subi [0] (by decide) rfl rfl⟩
                omega
            · obtain ⟨q1, q2⟩ := curL_new hpi hpl hex
              rw [← hcur] at q1 q2
              by_cases h0 : cur.length = 0
              · repeat' (first | refine O_nil ?_ | refine A_seq ?_ | refine A_region ?_ | refine A_skip ?_ | refine A_block ?_ | (show opsA _ _ _ _ _ _ _; first | (refine O_split rfl rfl (fun h => ?_) (fun h => ?_) <;> try (exfalso; omega)) | refine O_ev WideF.wide rfl (Ev_pure rfl) rfl rfl ?_ | (show opsA _ _ _ _ (⟨_, .load _ _, _, _, _, _⟩ :: _) _ _; refine O_ev WideF.wide rfl (Ev_loadH1 rfl (hc 1 _ rfl)) rfl rfl ?_) | (show opsA _ _ _ _ (⟨_, .indexAddr _ _ _, _, _, _, _⟩ :: _) _ _; refine O_ev WideF.wide rfl (Ev_indexAddr rfl rfl (by omega) (by omega)) rfl rfl ?_) | (show opsA _ _ _ _ (⟨_, .fieldAddr _ _ _, _, _, _, _⟩ :: _) _ _; refine O_ev WideF.wide rfl (Ev_fieldAddr rfl rfl rfl) rfl rfl ?_) | (show opsA _ _ _ _ (⟨_, .call _, _, _, _, _⟩ :: _) _ _; first | refine O_ev WideF.wide rfl (Ev_llen rfl) rfl rfl ?_ | (refine O_f1 (O_ef rfl (Ef_appendR WideF.wide rfl rfl rfl rfl rfl (by simp; omega) (by simp; omega) rfl ?_)); intro a cp)) | (show opsA _ _ _ _ (⟨_, .buildSlice _ _ _, _, _, _, _⟩ :: _) _ _; (refine O_ef rfl (Ef_build11 WideF.wide rfl rfl rfl ?_); intro b)) | (show opsA _ _ _ _ (⟨_, .binOp _ _ _ _ _, _, _, _, _⟩ :: _) _ _; refine O_ev WideF.wide rfl (Ev_add rfl rfl (wi64 (by omega))) rfl rfl ?_) | refine O_skip WideF.wide rfl rfl rfl ?_) | (show wpA _ _ _ (.cond _ _ _) _ _ _ _; first | (refine A_if rfl (fun h => ?_) (fun h => ?_) <;> try (exfalso; omega)) | refine A_iftrue rfl ?_))
                all_goals try (exfalso; omega)
                rw [isnoc_row, List.length_map]
                refine Shift.to ⟨_, ?_, i + 1, _, _, cur ++ [(k : Int) + 1], rfl, by omega, q1.symm, rfl⟩ ⟨rfl, rfl, rfl, ⟨rfl, rfl, rfl, rfl, trivial⟩, Own.subi [0] (by decide) rfl rfl⟩
                omega
              · cases a' with
                | none => have := (ha rfl).1; rw [List.map_eq_nil_iff] at this; rw [this] at h0; exact absurd rfl h0
                | some ad =>
                  obtain ⟨b2, rfl⟩ := had ad rfl
                  obtain ⟨y, hy⟩ : ∃ y, cur[cur.length - 1]? = some y := ⟨_, List.getElem?_eq_getElem (by omega)⟩
                  have hyk := q2 y (List.mem_of_getElem? hy)
                  have hget : (cur.map irow)[cur.length - 1]? = some [.int .i64 y] := by rw [List.getElem?_map, hy]; rfl
                  repeat' (first | (refine O_ev WideF.wide rfl (Ev_loadR1 (q := 0) (d := 0) rfl rfl hget (by omega) rfl) rfl rfl ?_) | refine O_nil ?_ | refine A_seq ?_ | refine A_region ?_ | refine A_skip ?_ | refine A_block ?_ | (show opsA _ _ _ _ _ _ _; first | (refine O_split rfl rfl (fun h => ?_) (fun h => ?_) <;> try (exfalso; omega)) | refine O_ev WideF.wide rfl (Ev_pure rfl) rfl rfl ?_ | (show opsA _ _ _ _ (⟨_, .load _ _, _, _, _, _⟩ :: _) _ _; refine O_ev WideF.wide rfl (Ev_loadH1 rfl (hc 1 _ rfl)) rfl rfl ?_) | (show opsA _ _ _ _ (⟨_, .indexAddr _ _ _, _, _, _, _⟩ :: _) _ _; refine O_ev WideF.wide rfl (Ev_indexAddr rfl rfl (by omega) (by omega)) rfl rfl ?_) | (show opsA _ _ _ _ (⟨_, .fieldAddr _ _ _, _, _, _, _⟩ :: _) _ _; refine O_ev WideF.wide rfl (Ev_fieldAddr rfl rfl rfl) rfl rfl ?_) | (show opsA _ _ _ _ (⟨_, .call _, _, _, _, _⟩ :: _) _ _; first | refine O_ev WideF.wide rfl (Ev_llen rfl) rfl rfl ?_ | (refine O_f1 (O_ef rfl (Ef_appendR WideF.wide rfl rfl rfl rfl rfl (by simp; omega) (by simp; omega) rfl ?_)); intro a cp)) | (show opsA _ _ _ _ (⟨_, .buildSlice _ _ _, _, _, _, _⟩ :: _) _ _; (refine O_ef rfl (Ef_build11 WideF.wide rfl rfl rfl ?_); intro b)) | (show opsA _ _ _ _ (⟨_, .binOp _ _ _ _ _, _, _, _, _⟩ :: _) _ _; first | refine O_ev WideF.wide rfl (Ev_add rfl rfl (wi64 (by omega))) rfl rfl ?_ | refine O_ev WideF.wide rfl (Ev_sub rfl rfl (wi64 (by omega))) rfl rfl ?_)) | (show wpA _ _ _ (.cond _ _ _) _ _ _ _; (refine A_if rfl (fun h => ?_) (fun h => ?_) <;> try (exfalso; omega))))
                  all_goals try (exfalso; omega)
                  rw [isnoc_row, List.length_map]
                  refine Shift.to ⟨_, ?_, i + 1, _, _, cur ++ [(k : Int) + 1], rfl, by omega, q1.symm, rfl⟩ ⟨rfl, rfl, rfl, ⟨rfl, rfl, rfl, rfl, trivial⟩, Own.subi [0] (by decide) rfl rfl⟩
                  omega
          · repeat' (first | refine O_nil ?_ | refine A_seq ?_ | refine A_region ?_ | refine A_skip ?_ | refine A_block ?_ | (show opsA _ _ _ _ _ _ _; first | (refine O_split rfl rfl (fun h => ?_) (fun h => ?_) <;> try (exfalso; omega)) | refine O_ev WideF.wide rfl (Ev_pure rfl) rfl rfl ?_ | (show opsA _ _ _ _ (⟨_, .load _ _, _, _, _, _⟩ :: _) _ _; refine O_ev WideF.wide rfl (Ev_loadH1 rfl (hc 1 _ rfl)) rfl rfl ?_) | (show opsA _ _ _ _ (⟨_, .indexAddr _ _ _, _, _, _, _⟩ :: _) _ _; refine O_ev WideF.wide rfl (Ev_indexAddr rfl rfl (by omega) (by omega)) rfl rfl ?_) | (show opsA _ _ _ _ (⟨_, .fieldAddr _ _ _, _, _, _, _⟩ :: _) _ _; refine O_ev WideF.wide rfl (Ev_fieldAddr rfl rfl rfl) rfl rfl ?_) | (show opsA _ _ _ _ (⟨_, .call _, _, _, _, _⟩ :: _) _ _; refine O_ev WideF.wide rfl (Ev_llen rfl) rfl rfl ?_) | (show opsA _ _ _ _ (⟨_, .binOp _ _ _ _ _, _, _, _, _⟩ :: _) _ _; refine O_ev WideF.wide rfl (Ev_add rfl rfl (wi64 (by omega))) rfl rfl ?_) | refine O_skip WideF.wide rfl rfl rfl ?_) | (show wpA _ _ _ (.cond _ _ _) _ _ _ _; first | (refine A_if rfl (fun h => ?_) (fun h => ?_) <;> try (exfalso; omega)) | refine A_iffalse rfl ?_))
            all_goals try (exfalso; omega)
            refine Shift.to ⟨_, ?_, i + 1, a', c', cur, rfl, by omega, by rw [curL_no hpi hpl]; exact hcur, rfl⟩ ⟨rfl, rfl, rfl, ⟨rfl, rfl, rfl, rfl, trivial⟩, Own.subi [0] (by decide) rfl rfl⟩
            omega
        · repeat' (first | refine O_nil ?_ | refine A_seq ?_ | refine A_region ?_ | (show opsA _ _ _ _ _ _ _; first | refine O_ev WideF.wide rfl (Ev_pure rfl) rfl rfl ?_ | (show opsA _ _ _ _ (⟨_, .call _, _, _, _, _⟩ :: _) _ _; refine O_ev WideF.wide rfl (Ev_llen rfl) rfl rfl ?_) | (show opsA _ _ _ _ (⟨_, .binOp _ _ _ _ _, _, _, _, _⟩ :: _) _ _; refine O_ev WideF.wide rfl (Ev_add rfl rfl (wi64 (by omega))) rfl rfl ?_)) | (show wpA _ _ _ (.exit _) _ _ _ _; refine A_exit rfl ?_) | (show wpA _ _ _ (.cond _ _ _) _ _ _ _; (refine A_if rfl (fun h => ?_) (fun h => ?_) <;> try (exfalso; omega))))
          all_goals try (exfalso; omega)
          refine Shift.to ⟨_, ?_, k + 1, a', c', cur, rfl, by omega, by rw [hcur, curL_full (by omega)], rfl⟩ ⟨rfl, rfl, rfl, ⟨rfl, rfl, rfl, trivial⟩, Own.subi [0] (by decide) rfl rfl⟩
          omega
    · have hk9 : k = 9 := by omega
      subst hk9
      repeat' (first | refine O_nil ?_ | refine A_seq ?_ | refine A_region ?_ | refine A_ret ?_ | (show opsA _ _ _ _ _ _ _; refine O_ev WideF.wide rfl (Ev_pure rfl) rfl rfl ?_) | (show wpA _ _ _ (.exit _) _ _ _ _; refine A_exit rfl ?_) | (show wpA _ _ _ (.cond _ _ _) _ _ _ _; (refine A_if rfl (fun h => ?_) (fun h => ?_) <;> try (exfalso; omega))))
      all_goals try (exfalso; omega)
      subst hcur
      exact End_row (Ret1 rfl rfl) (irow_one _) fun H' hle hr => ⟨_, _, _, rfl, hr, rfl⟩
set_option maxRecDepth 100000 in
set_option maxHeartbeats 2000000 in
theorem rCheck_fn {H : Hp} {s : List UInt8} (hs : s.length < 1099511627776) (q : Int) : Fn Tryz.prog 23 [sv s, .int .i64 q] H [] fun v _ I => v = .int .i64 (chkT s q) ∧ I = [] := by
  have hp := fun Hx => rParse10_fn (H := Hx) hs
  unfold ParseH at hp
  have hpl := parts_len (s := s)
  have hpo := parts_ok (s := s)
  have hu := fun Hx a1 n1 c1 (h1 : HRow Hx a1 n1 c1 3 ((tplE s).1.map prow)) (hn1 : n1 < 68719476736) => rUsed_fn (H := Hx) h1 hn1
  unfold IntsIs at hu
  unfold chkT
  generalize tplE s = t at *
  obtain ⟨ps, e⟩ := t
  dsimp only at hp hpl hpo hu ⊢
  by_cases hq : q < 1 ∨ 9 < q
  · rw [if_pos hq]
    refine Fn_of _ _ Tryz.func23 rfl Tryz.ntmps23 rfl fun c => ?_
    repeat' (first | refine O_nil ?_ | refine A_seq ?_ | refine A_region ?_ | refine A_ret ?_ | (show opsA _ _ _ _ _ _ _; first | (refine O_split rfl rfl (fun h => ?_) (fun h => ?_) <;> try (exfalso; omega)) | refine O_ev WideF.wide rfl (Ev_pure rfl) rfl rfl ?_ | refine O_skip WideF.wide rfl rfl rfl ?_) | (show wpA _ _ _ (.cond _ _ _) _ _ _ _; first | (refine A_if rfl (fun h => ?_) (fun h => ?_) <;> try (exfalso; omega)) | refine A_iftrue rfl ?_))
    all_goals first
      | (exfalso; omega)
      | exact End_e (Ret1 rfl rfl) ⟨rfl, rfl⟩
  · rw [if_neg hq]
    by_cases he : e = 0
    · subst he
      rw [if_neg (by simp)]
      have hlast := last_used hpo (q := q) (by omega)
      have hul := usedUp_len ps 9
      have hul : (usedL ps).length ≤ 9 := hul
      by_cases h0 : (usedL ps).length = 0
      · have hno : ¬ ∃ p ∈ ps, q < p.lev := by
          rw [hlast]
          rintro ⟨y, hy, _⟩
          rw [List.length_eq_zero_iff.1 h0] at hy
          cases hy
        rw [if_neg hno]
        refine Fn_of _ _ Tryz.func23 rfl Tryz.ntmps23 rfl fun c => ?_
        repeat' (first | (refine O_ef rfl (Ef_call (I := []) WideF.wide (hp _) ⟨rfl, trivial⟩ rfl ?_); rintro v H2 I2 hle2 ⟨a1, n1, c1, rfl, hr, rfl⟩); have hn1 : n1 < 1000000000 := (by have := hr.len; rw [List.length_map] at this; omega) | (refine O_ef rfl (Ef_call (I := []) WideF.wide (hu _ _ _ _ hr (by omega)) ⟨rfl, trivial⟩ rfl ?_); rintro v H3 I3 hle3 ⟨a3, n3, c3, rfl, hr3, rfl⟩); have hn3 : n3 = 0 := (by have := hr3.len; rw [List.length_map] at this; omega) | refine O_nil ?_ | refine A_seq ?_ | refine A_region ?_ | refine A_skip ?_ | refine A_ret ?_ | (show opsA _ _ _ _ _ _ _; first | (refine O_split rfl rfl (fun h => ?_) (fun h => ?_) <;> try (exfalso; omega)) | refine O_ev WideF.wide rfl (Ev_pure rfl) rfl rfl ?_ | (show opsA _ _ _ _ (⟨_, .call _, _, _, _, _⟩ :: _) _ _; refine O_ev WideF.wide rfl (Ev_llen rfl) rfl rfl ?_) | refine O_skip WideF.wide rfl rfl rfl ?_) | (show wpA _ _ _ (.cond _ _ _) _ _ _ _; first | (refine A_if rfl (fun h => ?_) (fun h => ?_) <;> try (exfalso; omega)) | refine A_iffalse rfl ?_))
        all_goals first
          | (exfalso; omega)
          | exact End_e (Ret1 rfl rfl) ⟨rfl, rfl⟩
      · obtain ⟨y, hy⟩ : ∃ y, (usedL ps)[(usedL ps).length - 1]? = some y := ⟨_, List.getElem?_eq_getElem (by omega)⟩
        have hiff : (∃ p ∈ ps, q < p.lev) ↔ q < y := by
          rw [hlast]
          constructor
          · rintro ⟨z, hz, h⟩; rw [hy] at hz; cases hz; exact h
          · intro h; exact ⟨y, hy, h⟩
        have hat := fun Hx a1 c1 (h1 : HRow Hx a1 (usedL ps).length c1 1 ((usedL ps).map irow)) => (show ∃ b o, a1 = some ⟨b, o, none⟩ ∧ HCells Hx b (o + ((usedL ps).length - 1) * 1) (irow y) by
          obtain ⟨b, o, y', ha, hy', hc⟩ := h1.atm ((usedL ps).length - 1) (by omega)
          rw [hy] at hy'
          cases hy'
          exact ⟨b, o, ha, hc⟩)
        have hj : ((usedL ps).length : Int) - 1 = (((usedL ps).length - 1 : Nat) : Int) := by omega
        generalize hN : (usedL ps).length = N at *
        by_cases hqy : q < y
        · rw [if_pos (hiff.2 hqy)]
          refine Fn_of _ _ Tryz.func23 rfl Tryz.ntmps23 rfl fun c => ?_
          repeat' (first | (refine O_ef rfl (Ef_call (I := []) WideF.wide (hp _) ⟨rfl, trivial⟩ rfl ?_); rintro v H2 I2 hle2 ⟨a1, n1, c1, rfl, hr, rfl⟩); have hn1 : n1 < 1000000000 := (by have := hr.len; rw [List.length_map] at this; omega) | (refine O_ef rfl (Ef_call (I := []) WideF.wide (hu _ _ _ _ hr (by omega)) ⟨rfl, trivial⟩ rfl ?_); rintro v H3 I3 hle3 ⟨a3, n3, c3, rfl, hr3, rfl⟩); obtain rfl : n3 = N := (by have := hr3.len; rw [List.length_map] at this; omega); obtain ⟨b, o, rfl, hcl⟩ := hat _ _ _ hr3; unfold irow at hcl | (refine O_ev WideF.wide rfl (Ev_sub rfl rfl (wi64 (by omega))) rfl rfl ?_; rw [hj]) | (refine O_ev WideF.wide rfl (Ev_loadH1 rfl (hcl 0 _ rfl)) rfl rfl ?_) | refine O_nil ?_ | refine A_seq ?_ | refine A_region ?_ | refine A_skip ?_ | refine A_ret ?_ | (show opsA _ _ _ _ _ _ _; first | (refine O_split rfl rfl (fun h => ?_) (fun h => ?_) <;> try (exfalso; omega)) | refine O_ev WideF.wide rfl (Ev_pure rfl) rfl rfl ?_ | (show opsA _ _ _ _ (⟨_, .indexAddr _ _ _, _, _, _, _⟩ :: _) _ _; refine O_ev WideF.wide rfl (Ev_indexAddr rfl rfl (by omega) (by omega)) rfl rfl ?_) | (show opsA _ _ _ _ (⟨_, .call _, _, _, _, _⟩ :: _) _ _; refine O_ev WideF.wide rfl (Ev_llen rfl) rfl rfl ?_)) | (show wpA _ _ _ (.cond _ _ _) _ _ _ _; (refine A_if rfl (fun h => ?_) (fun h => ?_) <;> try (exfalso; omega))))
          all_goals first
            | (exfalso; omega)
            | exact End_e (Ret1 rfl rfl) ⟨rfl, rfl⟩
        · rw [if_neg (fun h => hqy (hiff.1 h))]
          refine Fn_of _ _ Tryz.func23 rfl Tryz.ntmps23 rfl fun c => ?_
          repeat' (first | (refine O_ef rfl (Ef_call (I := []) WideF.wide (hp _) ⟨rfl, trivial⟩ rfl ?_); rintro v H2 I2 hle2 ⟨a1, n1, c1, rfl, hr, rfl⟩); have hn1 : n1 < 1000000000 := (by have := hr.len; rw [List.length_map] at this; omega) | (refine O_ef rfl (Ef_call (I := []) WideF.wide (hu _ _ _ _ hr (by omega)) ⟨rfl, trivial⟩ rfl ?_); rintro v H3 I3 hle3 ⟨a3, n3, c3, rfl, hr3, rfl⟩); obtain rfl : n3 = N := (by have := hr3.len; rw [List.length_map] at this; omega); obtain ⟨b, o, rfl, hcl⟩ := hat _ _ _ hr3; unfold irow at hcl | (refine O_ev WideF.wide rfl (Ev_sub rfl rfl (wi64 (by omega))) rfl rfl ?_; rw [hj]) | (refine O_ev WideF.wide rfl (Ev_loadH1 rfl (hcl 0 _ rfl)) rfl rfl ?_) | refine O_nil ?_ | refine A_seq ?_ | refine A_region ?_ | refine A_skip ?_ | refine A_ret ?_ | (show opsA _ _ _ _ _ _ _; first | (refine O_split rfl rfl (fun h => ?_) (fun h => ?_) <;> try (exfalso; omega)) | refine O_ev WideF.wide rfl (Ev_pure rfl) rfl rfl ?_ | (show opsA _ _ _ _ (⟨_, .indexAddr _ _ _, _, _, _, _⟩ :: _) _ _; refine O_ev WideF.wide rfl (Ev_indexAddr rfl rfl (by omega) (by omega)) rfl rfl ?_) | (show opsA _ _ _ _ (⟨_, .call _, _, _, _, _⟩ :: _) _ _; refine O_ev WideF.wide rfl (Ev_llen rfl) rfl rfl ?_)) | (show wpA _ _ _ (.cond _ _ _) _ _ _ _; (refine A_if rfl (fun h => ?_) (fun h => ?_) <;> try (exfalso; omega))))
          all_goals first
            | (exfalso; omega)
            | exact End_e (Ret1 rfl rfl) ⟨rfl, rfl⟩
    · rw [if_pos (by simpa using he)]
      refine Fn_of _ _ Tryz.func23 rfl Tryz.ntmps23 rfl fun c => ?_
      repeat' (first | (refine O_ef rfl (Ef_call (I := []) WideF.wide (hp _) ⟨rfl, trivial⟩ rfl ?_); rintro v H2 I2 hle2 ⟨a1, n1, c1, rfl, hr, rfl⟩) | refine O_nil ?_ | refine A_seq ?_ | refine A_region ?_ | refine A_skip ?_ | refine A_ret ?_ | (show opsA _ _ _ _ _ _ _; first | (refine O_split rfl rfl (fun h => ?_) (fun h => ?_) <;> try (exfalso; omega)) | refine O_ev WideF.wide rfl (Ev_pure rfl) rfl rfl ?_) | (show wpA _ _ _ (.cond _ _ _) _ _ _ _; (refine A_if rfl (fun h => ?_) (fun h => ?_) <;> try (exfalso; omega))))
      all_goals first
        | (exfalso; omega)
        | exact End_e (Ret1 rfl rfl) ⟨rfl, rfl⟩
set_option maxRecDepth 100000 in
set_option maxHeartbeats 2000000 in
theorem lCheck_fn {H : Hp} {s : List UInt8} (hs : s.length < 1099511627776) (q : Int) : Fn Tryz.prog 22 [sv s, .int .i64 q] H [] fun v _ I => v = .int .i64 (chkT s q) ∧ I = [] := by
  have hp := fun Hx => lParse_fn (H := Hx) hs
  unfold ParseH at hp
  have hpl := parts_len (s := s)
  unfold chkT
  generalize tplE s = t at *
  obtain ⟨ps, e⟩ := t
  dsimp only at hp hpl ⊢
  by_cases hq : q < 1 ∨ 9 < q
  · rw [if_pos hq]
    refine Fn_of _ _ Tryz.func22 rfl Tryz.ntmps22 rfl fun c => ?_
    repeat' (first | refine O_nil ?_ | refine A_seq ?_ | refine A_region ?_ | refine A_ret ?_ | (show opsA _ _ _ _ _ _ _; first | (refine O_split rfl rfl (fun h => ?_) (fun h => ?_) <;> try (exfalso; omega)) | refine O_ev WideF.wide rfl (Ev_pure rfl) rfl rfl ?_ | (show opsA _ _ _ _ (⟨_, .load _ _, _, _, _, _⟩ :: _) _ _; refine O_ev WideF.wide rfl (Ev_loadB1 (i := 0) rfl rfl rfl) rfl rfl ?_) | (show opsA _ _ _ _ (⟨_, .box _ _, _, _, _, _⟩ :: _) _ _; (refine O_ef rfl (Ef_box1 WideF.wide rfl rfl rfl ?_); intro b)) | refine O_skip WideF.wide rfl rfl rfl ?_) | (show wpA _ _ _ (.cond _ _ _) _ _ _ _; first | (refine A_if rfl (fun h => ?_) (fun h => ?_) <;> try (exfalso; omega)) | refine A_iftrue rfl ?_))
    all_goals first
      | (exfalso; omega)
      | exact End_e (Ret1 rfl rfl) ⟨rfl, rfl⟩
  · rw [if_neg hq]
    by_cases he : e = 0
    · subst he
      rw [if_neg (by simp)]
      have hco := fun Hx b1 (hb : Hx b1 0 = some (.int .i64 q)) a1 n1 c1 (h1 : HRow Hx a1 n1 c1 3 (ps.map prow)) (hn1 : n1 < 68719476736) => ContainsP_fn (above_fn hb) h1 hn1
      by_cases hex : ∃ p ∈ ps, q < p.lev
      · simp only [decide_eq_true hex] at hco
        rw [if_pos hex]
        refine Fn_of _ _ Tryz.func22 rfl Tryz.ntmps22 rfl fun c => ?_
        repeat' (first | (refine O_ef rfl (Ef_call (I := []) WideF.wide (hp _) ⟨rfl, trivial⟩ rfl ?_); rintro v H2 I2 hle2 ⟨a1, n1, c1, rfl, hr, rfl⟩); have hn1 : n1 < 1000000000 := (by have := hr.len; rw [List.length_map] at this; omega) | (refine O_freezeBox (by intro u hu; simp at hu; subst hu; rfl) ?_; intro H4 hle4 hc4; refine O_ev WideF.wide rfl (Ev_makeFunc (xs := []) (vs := []) (ys := [.tmp 3]) (us := [.pointer (some ⟨_, 0, none⟩)]) rfl rfl) rfl rfl ?_) | (refine O_ef rfl (Ef_callp WideF.wide (hco _ _ (hc4 0 _ rfl) _ _ _ (hr.mono hle4) (by omega)) ⟨rfl, rfl, trivial⟩ rfl ?_)) | refine O_nil ?_ | refine A_seq ?_ | refine A_region ?_ | refine A_skip ?_ | refine A_ret ?_ | (show opsA _ _ _ _ _ _ _; first | (refine O_split rfl rfl (fun h => ?_) (fun h => ?_) <;> try (exfalso; omega)) | refine O_ev WideF.wide rfl (Ev_pure rfl) rfl rfl ?_ | (show opsA _ _ _ _ (⟨_, .load _ _, _, _, _, _⟩ :: _) _ _; refine O_ev WideF.wide rfl (Ev_loadB1 (i := 0) rfl rfl rfl) rfl rfl ?_) | (show opsA _ _ _ _ (⟨_, .box _ _, _, _, _, _⟩ :: _) _ _; (refine O_ef rfl (Ef_box1 WideF.wide rfl rfl rfl ?_); intro b))) | (show wpA _ _ _ (.cond _ _ _) _ _ _ _; first | (refine A_if rfl (fun h => ?_) (fun h => ?_) <;> try (exfalso; omega)) | refine A_iftrue rfl ?_))
        all_goals first
          | (exfalso; omega)
          | (exfalso; exact absurd trivial (by assumption))
          | exact End_e (Ret1 rfl rfl) ⟨rfl, rfl⟩
      · simp only [decide_eq_false hex] at hco
        rw [if_neg hex]
        refine Fn_of _ _ Tryz.func22 rfl Tryz.ntmps22 rfl fun c => ?_
        repeat' (first | (refine O_ef rfl (Ef_call (I := []) WideF.wide (hp _) ⟨rfl, trivial⟩ rfl ?_); rintro v H2 I2 hle2 ⟨a1, n1, c1, rfl, hr, rfl⟩); have hn1 : n1 < 1000000000 := (by have := hr.len; rw [List.length_map] at this; omega) | (refine O_freezeBox (by intro u hu; simp at hu; subst hu; rfl) ?_; intro H4 hle4 hc4; refine O_ev WideF.wide rfl (Ev_makeFunc (xs := []) (vs := []) (ys := [.tmp 3]) (us := [.pointer (some ⟨_, 0, none⟩)]) rfl rfl) rfl rfl ?_) | (refine O_ef rfl (Ef_callp WideF.wide (hco _ _ (hc4 0 _ rfl) _ _ _ (hr.mono hle4) (by omega)) ⟨rfl, rfl, trivial⟩ rfl ?_)) | refine O_nil ?_ | refine A_seq ?_ | refine A_region ?_ | refine A_skip ?_ | refine A_ret ?_ | (show opsA _ _ _ _ _ _ _; first | (refine O_split rfl rfl (fun h => ?_) (fun h => ?_) <;> try (exfalso; omega)) | refine O_ev WideF.wide rfl (Ev_pure rfl) rfl rfl ?_ | (show opsA _ _ _ _ (⟨_, .load _ _, _, _, _, _⟩ :: _) _ _; refine O_ev WideF.wide rfl (Ev_loadB1 (i := 0) rfl rfl rfl) rfl rfl ?_) | (show opsA _ _ _ _ (⟨_, .box _ _, _, _, _, _⟩ :: _) _ _; (refine O_ef rfl (Ef_box1 WideF.wide rfl rfl rfl ?_); intro b))) | (show wpA _ _ _ (.cond _ _ _) _ _ _ _; first | (refine A_if rfl (fun h => ?_) (fun h => ?_) <;> try (exfalso; omega)) | refine A_iffalse rfl ?_))
        all_goals first
          | (exfalso; omega)
          | (exfalso; exact absurd trivial (by assumption))
          | exact End_e (Ret1 rfl rfl) ⟨rfl, rfl⟩
    · rw [if_pos (by simpa using he)]
      refine Fn_of _ _ Tryz.func22 rfl Tryz.ntmps22 rfl fun c => ?_
      repeat' (first | (refine O_ef rfl (Ef_call (I := []) WideF.wide (hp _) ⟨rfl, trivial⟩ rfl ?_); rintro v H2 I2 hle2 ⟨a1, n1, c1, rfl, hr, rfl⟩) | refine O_nil ?_ | refine A_seq ?_ | refine A_region ?_ | refine A_skip ?_ | refine A_ret ?_ | (show opsA _ _ _ _ _ _ _; first | (refine O_split rfl rfl (fun h => ?_) (fun h => ?_) <;> try (exfalso; omega)) | refine O_ev WideF.wide rfl (Ev_pure rfl) rfl rfl ?_ | (show opsA _ _ _ _ (⟨_, .load _ _, _, _, _, _⟩ :: _) _ _; refine O_ev WideF.wide rfl (Ev_loadB1 (i := 0) rfl rfl rfl) rfl rfl ?_) | (show opsA _ _ _ _ (⟨_, .box _ _, _, _, _, _⟩ :: _) _ _; (refine O_ef rfl (Ef_box1 WideF.wide rfl rfl rfl ?_); intro b)) | refine O_skip WideF.wide rfl rfl rfl ?_) | (show wpA _ _ _ (.cond _ _ _) _ _ _ _; first | (refine A_if rfl (fun h => ?_) (fun h => ?_) <;> try (exfalso; omega)) | refine A_iffalse rfl ?_))
      all_goals first
        | (exfalso; omega)
        | exact End_e (Ret1 rfl rfl) ⟨rfl, rfl⟩
set_option maxRecDepth 100000 in
set_option maxHeartbeats 4000000 in
theorem lCheckLevels_fn {H : Hp} {a : Option Addr} {n cq : Nat} {l : List Lv} (hx : HRow H a n cq 4 (l.map lvrow)) (hn : n < 68719476736) (hl : ∀ x ∈ l, x.tpl.length < 1099511627776) :
    Fn Tryz.prog 20 [.slice a n cq] H [] fun v _ I => v = .int .i64 (chkLv l) ∧ I = [] := by
  have e1 : l.length = n := by have := hx.len; simpa using this
  unfold chkLv
  rw [e1]
  by_cases h0 : n = 0
  · rw [if_pos h0]
    refine Fn_of _ _ Tryz.func20 rfl Tryz.ntmps20 rfl fun c => ?_
    repeat' (first | refine O_nil ?_ | refine A_seq ?_ | refine A_region ?_ | refine A_ret ?_ | refine A_block ?_ | (show opsA _ _ _ _ _ _ _; first | refine O_ev WideF.wide rfl (Ev_pure rfl) rfl rfl ?_ | (show opsA _ _ _ _ (⟨_, .call _, _, _, _, _⟩ :: _) _ _; refine O_ev WideF.wide rfl (Ev_llen rfl) rfl rfl ?_)) | (show wpA _ _ _ (.cond _ _ _) _ _ _ _; (refine A_if rfl (fun h => ?_) (fun h => ?_) <;> try (exfalso; omega))))
    all_goals first
      | (exfalso; omega)
      | exact End_e (Ret1 rfl rfl) ⟨rfl, rfl⟩
  rw [if_neg h0]
  by_cases h9 : 9 < n
  · rw [if_pos h9]
    refine Fn_of _ _ Tryz.func20 rfl Tryz.ntmps20 rfl fun c => ?_
    repeat' (first | refine O_nil ?_ | refine A_seq ?_ | refine A_region ?_ | refine A_ret ?_ | refine A_block ?_ | (show opsA _ _ _ _ _ _ _; first | refine O_ev WideF.wide rfl (Ev_pure rfl) rfl rfl ?_ | (show opsA _ _ _ _ (⟨_, .call _, _, _, _, _⟩ :: _) _ _; refine O_ev WideF.wide rfl (Ev_llen rfl) rfl rfl ?_)) | (show wpA _ _ _ (.cond _ _ _) _ _ _ _; (refine A_if rfl (fun h => ?_) (fun h => ?_) <;> try (exfalso; omega))))
    all_goals first
      | (exfalso; omega)
      | exact End_e (Ret1 rfl rfl) ⟨rfl, rfl⟩
  rw [if_neg h9]
  refine Fn_of _ _ Tryz.func20 rfl Tryz.ntmps20 rfl fun c => ?_
  repeat' (first | refine O_nil ?_ | refine A_seq ?_ | refine A_region ?_ | refine A_skip ?_ | refine A_block ?_ | (show opsA _ _ _ _ _ _ _; first | refine O_ev WideF.wide rfl (Ev_pure rfl) rfl rfl ?_ | (show opsA _ _ _ _ (⟨_, .call _, _, _, _, _⟩ :: _) _ _; refine O_ev WideF.wide rfl (Ev_llen rfl) rfl rfl ?_)) | (show wpA _ _ _ (.cond _ _ _) _ _ _ _; (refine A_if rfl (fun h => ?_) (fun h => ?_) <;> try (exfalso; omega))))
  all_goals try (exfalso; omega)
  refine A_loopu (fun m st => ∃ (i : Nat) (H1 : Hp), m = n - i ∧ i ≤ n ∧ HLe H H1 ∧ chkGo 0 l = chkGo i (l.drop i) ∧ st = ⟨57, [(0, .slice a n cq), (14, .slice a n cq), (15, .int .i64 n), (16, .int .i64 i)], H1, [], [], []⟩) ?_ ?_
  · exact Shift.to ⟨_, 0, H, rfl, by omega, HLe.refl H, by rw [List.drop_zero], rfl⟩ ⟨rfl, rfl, rfl, ⟨rfl, rfl, rfl, rfl, trivial⟩, Own.sub_nil _⟩
  · rintro m st ⟨i, H1, rfl, hi, hl1, hg, rfl⟩
    by_cases hlt : i < n
    · obtain ⟨b, o, x, rfl, hxi, hc⟩ := hx.atm i hlt
      have hc := hc.mono hl1
      have hck := fun Hx => lCheck_fn (H := Hx) (hl x (List.mem_of_getElem? hxi)) ((i : Int) + 1)
      rw [drop_get hxi, chkGo_cons] at hg
      rw [hg]
      unfold lvrow at hc
      by_cases hf : x.fmt < 1 ∨ 7 < x.fmt
      · rw [if_pos hf]
        repeat' (first | (refine O_ev WideF.wide rfl (Ev_loadH rfl hc rfl) rfl rfl ?_) | refine O_nil ?_ | refine A_seq ?_ | refine A_region ?_ | refine A_skip ?_ | refine A_ret ?_ | refine A_block ?_ | (show opsA _ _ _ _ _ _ _; first | (refine O_split rfl rfl (fun h => ?_) (fun h => ?_) <;> try (exfalso; omega)) | refine O_ev WideF.wide rfl (Ev_pure rfl) rfl rfl ?_ | (show opsA _ _ _ _ (⟨_, .load _ _, _, _, _, _⟩ :: _) _ _; refine O_ev WideF.wide rfl (Ev_loadB1 (i := 0) rfl rfl rfl) rfl rfl ?_) | (show opsA _ _ _ _ (⟨_, .indexAddr _ _ _, _, _, _, _⟩ :: _) _ _; refine O_ev WideF.wide rfl (Ev_indexAddr rfl rfl (by omega) (by omega)) rfl rfl ?_) | (show opsA _ _ _ _ (⟨_, .fieldAddr _ _ _, _, _, _, _⟩ :: _) _ _; refine O_ev WideF.wide rfl (Ev_fieldAddr rfl rfl rfl) rfl rfl ?_) | (show opsA _ _ _ _ (⟨_, .alloc _, _, _, _, _⟩ :: _) _ _; (refine O_ef rfl (Ef_alloc WideF.wide rfl ?_); intro b)) | (show opsA _ _ _ _ (⟨_, .store _ _ _, _, _, _, _⟩ :: _) _ _; refine O_ef rfl (Ef_storew WideF.wide rfl rfl rfl rfl rfl ?_)) | refine O_skip WideF.wide rfl rfl rfl ?_) | (show wpA _ _ _ (.cond _ _ _) _ _ _ _; first | (refine A_if rfl (fun h => ?_) (fun h => ?_) <;> try (exfalso; omega)) | refine A_iftrue rfl ?_))
        all_goals first
          | (exfalso; omega)
          | exact End_e (Ret1 rfl rfl) ⟨rfl, rfl⟩
      rw [if_neg hf]
      by_cases hs : x.start < 0 ∨ 32767 < x.start
      · rw [if_pos hs]
        repeat' (first | (refine O_ev WideF.wide rfl (Ev_loadH rfl hc rfl) rfl rfl ?_) | refine O_nil ?_ | refine A_seq ?_ | refine A_region ?_ | refine A_skip ?_ | refine A_ret ?_ | refine A_block ?_ | (show opsA _ _ _ _ _ _ _; first | (refine O_split rfl rfl (fun h => ?_) (fun h => ?_) <;> try (exfalso; omega)) | refine O_ev WideF.wide rfl (Ev_pure rfl) rfl rfl ?_ | (show opsA _ _ _ _ (⟨_, .load _ _, _, _, _, _⟩ :: _) _ _; refine O_ev WideF.wide rfl (Ev_loadB1 (i := 0) rfl rfl rfl) rfl rfl ?_) | (show opsA _ _ _ _ (⟨_, .indexAddr _ _ _, _, _, _, _⟩ :: _) _ _; refine O_ev WideF.wide rfl (Ev_indexAddr rfl rfl (by omega) (by omega)) rfl rfl ?_) | (show opsA _ _ _ _ (⟨_, .fieldAddr _ _ _, _, _, _, _⟩ :: _) _ _; refine O_ev WideF.wide rfl (Ev_fieldAddr rfl rfl rfl) rfl rfl ?_) | (show opsA _ _ _ _ (⟨_, .alloc _, _, _, _, _⟩ :: _) _ _; (refine O_ef rfl (Ef_alloc WideF.wide rfl ?_); intro b)) | (show opsA _ _ _ _ (⟨_, .store _ _ _, _, _, _, _⟩ :: _) _ _; refine O_ef rfl (Ef_storew WideF.wide rfl rfl rfl rfl rfl ?_)) | refine O_skip WideF.wide rfl rfl rfl ?_) | (show wpA _ _ _ (.cond _ _ _) _ _ _ _; first | (refine A_if rfl (fun h => ?_) (fun h => ?_) <;> try (exfalso; omega)) | refine A_iftrue rfl ?_))
        all_goals first
          | (exfalso; omega)
          | exact End_e (Ret1 rfl rfl) ⟨rfl, rfl⟩
      rw [if_neg hs]
      by_cases he : chkT x.tpl ((i : Int) + 1) = 0
      · rw [if_neg (by simpa using he)]
        simp only [he] at hck
        by_cases hr : x.restart < 0 ∨ (i : Int) < x.restart
        · rw [if_pos hr]
          repeat' (first | (refine O_ev WideF.wide rfl (Ev_loadH rfl hc rfl) rfl rfl ?_) | (refine O_ef rfl (Ef_call (I := []) WideF.wide (hck _) ⟨rfl, rfl, trivial⟩ rfl ?_); rintro v H2 I2 hle2 ⟨rfl, rfl⟩) | refine O_nil ?_ | refine A_seq ?_ | refine A_region ?_ | refine A_skip ?_ | refine A_ret ?_ | refine A_block ?_ | (show opsA _ _ _ _ _ _ _; first | (refine O_split rfl rfl (fun h => ?_) (fun h => ?_) <;> try (exfalso; omega)) | refine O_ev WideF.wide rfl (Ev_pure rfl) rfl rfl ?_ | (show opsA _ _ _ _ (⟨_, .load _ _, _, _, _, _⟩ :: _) _ _; refine O_ev WideF.wide rfl (Ev_loadB1 (i := 0) rfl rfl rfl) rfl rfl ?_) | (show opsA _ _ _ _ (⟨_, .indexAddr _ _ _, _, _, _, _⟩ :: _) _ _; refine O_ev WideF.wide rfl (Ev_indexAddr rfl rfl (by omega) (by omega)) rfl rfl ?_) | (show opsA _ _ _ _ (⟨_, .fieldAddr _ _ _, _, _, _, _⟩ :: _) _ _; refine O_ev WideF.wide rfl (Ev_fieldAddr rfl rfl rfl) rfl rfl ?_) | (show opsA _ _ _ _ (⟨_, .binOp _ _ _ _ _, _, _, _, _⟩ :: _) _ _; refine O_ev WideF.wide rfl (Ev_add rfl rfl (wi64 (by omega))) rfl rfl ?_) | (show opsA _ _ _ _ (⟨_, .alloc _, _, _, _, _⟩ :: _) _ _; (refine O_ef rfl (Ef_alloc WideF.wide rfl ?_); intro b)) | (show opsA _ _ _ _ (⟨_, .store _ _ _, _, _, _, _⟩ :: _) _ _; refine O_ef rfl (Ef_storew WideF.wide rfl rfl rfl rfl rfl ?_)) | refine O_skip WideF.wide rfl rfl rfl ?_) | (show wpA _ _ _ (.cond _ _ _) _ _ _ _; first | (refine A_if rfl (fun h => ?_) (fun h => ?_) <;> try (exfalso; omega)) | refine A_iftrue rfl ?_))
          all_goals first
            | (exfalso; omega)
            | (exfalso; exact absurd trivial (by assumption))
            | exact End_e (Ret1 rfl rfl) ⟨rfl, rfl⟩
        · rw [if_neg hr] at hg ⊢
          rw [if_neg hf, if_neg hs, if_neg (by simpa using he)] at hg
          rw [← hg]
          repeat' (first | (refine O_ev WideF.wide rfl (Ev_loadH rfl hc rfl) rfl rfl ?_) | (refine O_ef rfl (Ef_call (I := []) WideF.wide (hck _) ⟨rfl, rfl, trivial⟩ rfl ?_); rintro v H2 I2 hle2 ⟨rfl, rfl⟩) | refine O_nil ?_ | refine A_seq ?_ | refine A_region ?_ | refine A_skip ?_ | refine A_block ?_ | (show opsA _ _ _ _ _ _ _; first | (refine O_split rfl rfl (fun h => ?_) (fun h => ?_) <;> try (exfalso; omega)) | refine O_ev WideF.wide rfl (Ev_pure rfl) rfl rfl ?_ | (show opsA _ _ _ _ (⟨_, .load _ _, _, _, _, _⟩ :: _) _ _; refine O_ev WideF.wide rfl (Ev_loadB1 (i := 0) rfl rfl rfl) rfl rfl ?_) | (show opsA _ _ _ _ (⟨_, .indexAddr _ _ _, _, _, _, _⟩ :: _) _ _; refine O_ev WideF.wide rfl (Ev_indexAddr rfl rfl (by omega) (by omega)) rfl rfl ?_) | (show opsA _ _ _ _ (⟨_, .fieldAddr _ _ _, _, _, _, _⟩ :: _) _ _; refine O_ev WideF.wide rfl (Ev_fieldAddr rfl rfl rfl) rfl rfl ?_) | (show opsA _ _ _ _ (⟨_, .binOp _ _ _ _ _, _, _, _, _⟩ :: _) _ _; refine O_ev WideF.wide rfl (Ev_add rfl rfl (wi64 (by omega))) rfl rfl ?_) | (show opsA _ _ _ _ (⟨_, .alloc _, _, _, _, _⟩ :: _) _ _; (refine O_ef rfl (Ef_alloc WideF.wide rfl ?_); intro b)) | (show opsA _ _ _ _ (⟨_, .store _ _ _, _, _, _, _⟩ :: _) _ _; refine O_ef rfl (Ef_storew WideF.wide rfl rfl rfl rfl rfl ?_))) | (show wpA _ _ _ (.cond _ _ _) _ _ _ _; (refine A_if rfl (fun h => ?_) (fun h => ?_) <;> try (exfalso; omega))))
          all_goals try (exfalso; omega)
          all_goals try (exfalso; exact absurd trivial (by assumption))
          all_goals
            refine Shift.to ⟨_, ?_, i + 1, _, rfl, by omega, hl1.trans hle2, hg, rfl⟩ ⟨rfl, rfl, rfl, ⟨rfl, rfl, rfl, rfl, trivial⟩, Own.sub_nil _⟩
            omega
      · rw [if_pos (by simpa using he)]
        generalize chkT x.tpl ((i : Int) + 1) = e at hck he
        repeat' (first | (refine O_ev WideF.wide rfl (Ev_loadH rfl hc rfl) rfl rfl ?_) | (refine O_ef rfl (Ef_call (I := []) WideF.wide (hck _) ⟨rfl, rfl, trivial⟩ rfl ?_); rintro v H2 I2 hle2 ⟨rfl, rfl⟩) | refine O_nil ?_ | refine A_seq ?_ | refine A_region ?_ | refine A_skip ?_ | refine A_ret ?_ | refine A_block ?_ | (show opsA _ _ _ _ _ _ _; first | (refine O_split rfl rfl (fun h => ?_) (fun h => ?_) <;> try (exfalso; omega)) | refine O_ev WideF.wide rfl (Ev_pure rfl) rfl rfl ?_ | (show opsA _ _ _ _ (⟨_, .load _ _, _, _, _, _⟩ :: _) _ _; refine O_ev WideF.wide rfl (Ev_loadB1 (i := 0) rfl rfl rfl) rfl rfl ?_) | (show opsA _ _ _ _ (⟨_, .indexAddr _ _ _, _, _, _, _⟩ :: _) _ _; refine O_ev WideF.wide rfl (Ev_indexAddr rfl rfl (by omega) (by omega)) rfl rfl ?_) | (show opsA _ _ _ _ (⟨_, .fieldAddr _ _ _, _, _, _, _⟩ :: _) _ _; refine O_ev WideF.wide rfl (Ev_fieldAddr rfl rfl rfl) rfl rfl ?_) | (show opsA _ _ _ _ (⟨_, .binOp _ _ _ _ _, _, _, _, _⟩ :: _) _ _; refine O_ev WideF.wide rfl (Ev_add rfl rfl (wi64 (by omega))) rfl rfl ?_) | (show opsA _ _ _ _ (⟨_, .alloc _, _, _, _, _⟩ :: _) _ _; (refine O_ef rfl (Ef_alloc WideF.wide rfl ?_); intro b)) | (show opsA _ _ _ _ (⟨_, .store _ _ _, _, _, _, _⟩ :: _) _ _; refine O_ef rfl (Ef_storew WideF.wide rfl rfl rfl rfl rfl ?_))) | (show wpA _ _ _ (.cond _ _ _) _ _ _ _; (refine A_if rfl (fun h => ?_) (fun h => ?_) <;> try (exfalso; omega))))
        all_goals first
          | (exfalso; omega)
          | exact End_e (Ret1 rfl rfl) ⟨rfl, rfl⟩
    · have hin : i = n := by omega
      subst hin
      rw [hg, List.drop_eq_nil_of_le (by omega)]
      repeat' (first | refine O_nil ?_ | refine A_seq ?_ | refine A_region ?_ | refine A_ret ?_ | (show opsA _ _ _ _ _ _ _; refine O_ev WideF.wide rfl (Ev_pure rfl) rfl rfl ?_) | (show wpA _ _ _ (.exit _) _ _ _ _; refine A_exit rfl ?_) | (show wpA _ _ _ (.cond _ _ _) _ _ _ _; (refine A_if rfl (fun h => ?_) (fun h => ?_) <;> try (exfalso; omega))))
      all_goals first
        | (exfalso; omega)
        | exact End_e (Ret1 rfl rfl) ⟨rfl, rfl⟩
set_option maxRecDepth 100000 in
set_option maxHeartbeats 4000000 in
theorem rCheckLevels_fn {H : Hp} {a : Option Addr} {n cq : Nat} {l : List Lv} (hx : HRow H a n cq 4 (l.map lvrow)) (hn : n < 68719476736) (hl : ∀ x ∈ l, x.tpl.length < 1099511627776) :
    Fn Tryz.prog 21 [.slice a n cq] H [] fun v _ I => v = .int .i64 (chkLv l) ∧ I = [] := by
  have e1 : l.length = n := by have := hx.len; simpa using this
  unfold chkLv
  rw [e1]
  by_cases h0 : n = 0
  · rw [if_pos h0]
    refine Fn_of _ _ Tryz.func21 rfl Tryz.ntmps21 rfl fun c => ?_
    repeat' (first | refine O_nil ?_ | refine A_seq ?_ | refine A_region ?_ | refine A_ret ?_ | (show opsA _ _ _ _ _ _ _; first | refine O_ev WideF.wide rfl (Ev_pure rfl) rfl rfl ?_ | (show opsA _ _ _ _ (⟨_, .call _, _, _, _, _⟩ :: _) _ _; refine O_ev WideF.wide rfl (Ev_llen rfl) rfl rfl ?_)) | (show wpA _ _ _ (.cond _ _ _) _ _ _ _; (refine A_if rfl (fun h => ?_) (fun h => ?_) <;> try (exfalso; omega))))
    all_goals first
      | (exfalso; omega)
      | exact End_e (Ret1 rfl rfl) ⟨rfl, rfl⟩
  rw [if_neg h0]
  by_cases h9 : 9 < n
  · rw [if_pos h9]
    refine Fn_of _ _ Tryz.func21 rfl Tryz.ntmps21 rfl fun c => ?_
    repeat' (first | refine O_nil ?_ | refine A_seq ?_ | refine A_region ?_ | refine A_skip ?_ | refine A_ret ?_ | (show opsA _ _ _ _ _ _ _; first | refine O_ev WideF.wide rfl (Ev_pure rfl) rfl rfl ?_ | (show opsA _ _ _ _ (⟨_, .call _, _, _, _, _⟩ :: _) _ _; refine O_ev WideF.wide rfl (Ev_llen rfl) rfl rfl ?_)) | (show wpA _ _ _ (.cond _ _ _) _ _ _ _; (refine A_if rfl (fun h => ?_) (fun h => ?_) <;> try (exfalso; omega))))
    all_goals first
      | (exfalso; omega)
      | exact End_e (Ret1 rfl rfl) ⟨rfl, rfl⟩
  rw [if_neg h9]
  refine Fn_of _ _ Tryz.func21 rfl Tryz.ntmps21 rfl fun c => ?_
  repeat' (first | refine O_nil ?_ | refine A_seq ?_ | refine A_region ?_ | refine A_skip ?_ | refine A_block ?_ | (show opsA _ _ _ _ _ _ _; first | refine O_ev WideF.wide rfl (Ev_pure rfl) rfl rfl ?_ | (show opsA _ _ _ _ (⟨_, .call _, _, _, _, _⟩ :: _) _ _; refine O_ev WideF.wide rfl (Ev_llen rfl) rfl rfl ?_)) | (show wpA _ _ _ (.cond _ _ _) _ _ _ _; (refine A_if rfl (fun h => ?_) (fun h => ?_) <;> try (exfalso; omega))))
  all_goals try (exfalso; omega)
  refine A_loopu (fun m st => ∃ (i : Nat) (H1 : Hp), m = n - i ∧ i ≤ n ∧ HLe H H1 ∧ chkGo 0 l = chkGo i (l.drop i) ∧ st = ⟨75, [(0, .slice a n cq), (3, .int .i64 i)], H1, [], [], []⟩) ?_ ?_
  · exact Shift.to ⟨_, 0, H, rfl, by omega, HLe.refl H, by rw [List.drop_zero], rfl⟩ ⟨rfl, rfl, rfl, ⟨rfl, rfl, trivial⟩, Own.sub_nil _⟩
  · rintro m st ⟨i, H1, rfl, hi, hl1, hg, rfl⟩
    by_cases hlt : i < n
    · obtain ⟨b, o, x, rfl, hxi, hc⟩ := hx.atm i hlt
      have hc := hc.mono hl1
      have hck := fun Hx => rCheck_fn (H := Hx) (hl x (List.mem_of_getElem? hxi)) ((i : Int) + 1)
      rw [drop_get hxi, chkGo_cons] at hg
      rw [hg]
      unfold lvrow at hc
      by_cases hf : x.fmt < 1 ∨ 7 < x.fmt
      · rw [if_pos hf]
        repeat' (first | (refine O_ef rfl (Ef_call (I := []) WideF.wide (hck _) ⟨rfl, rfl, trivial⟩ rfl ?_); rintro v H2 I2 hle2 ⟨rfl, rfl⟩); have hc := hc.mono hle2 | refine O_nil ?_ | refine A_seq ?_ | refine A_region ?_ | refine A_skip ?_ | refine A_ret ?_ | refine A_block ?_ | (show opsA _ _ _ _ _ _ _; first | (refine O_split rfl rfl (fun h => ?_) (fun h => ?_) <;> try (exfalso; omega)) | refine O_ev WideF.wide rfl (Ev_pure rfl) rfl rfl ?_ | (show opsA _ _ _ _ (⟨_, .load _ _, _, _, _, _⟩ :: _) _ _; first | refine O_ev WideF.wide rfl (Ev_loadH1 rfl (hc 0 _ rfl)) rfl rfl ?_ | refine O_ev WideF.wide rfl (Ev_loadH1 rfl (hc 2 _ rfl)) rfl rfl ?_) | (show opsA _ _ _ _ (⟨_, .indexAddr _ _ _, _, _, _, _⟩ :: _) _ _; refine O_ev WideF.wide rfl (Ev_indexAddr rfl rfl (by omega) (by omega)) rfl rfl ?_) | (show opsA _ _ _ _ (⟨_, .fieldAddr _ _ _, _, _, _, _⟩ :: _) _ _; refine O_ev WideF.wide rfl (Ev_fieldAddr rfl rfl rfl) rfl rfl ?_) | (show opsA _ _ _ _ (⟨_, .call _, _, _, _, _⟩ :: _) _ _; refine O_ev WideF.wide rfl (Ev_llen rfl) rfl rfl ?_) | (show opsA _ _ _ _ (⟨_, .binOp _ _ _ _ _, _, _, _, _⟩ :: _) _ _; refine O_ev WideF.wide rfl (Ev_add rfl rfl (wi64 (by omega))) rfl rfl ?_) | refine O_skip WideF.wide rfl rfl rfl ?_) | (show wpA _ _ _ (.cond _ _ _) _ _ _ _; first | (refine A_if rfl (fun h => ?_) (fun h => ?_) <;> try (exfalso; omega)) | refine A_iftrue rfl ?_))
        all_goals first
          | (exfalso; omega)
          | exact End_e (Ret1 rfl rfl) ⟨rfl, rfl⟩
      rw [if_neg hf]
      by_cases hs : x.start < 0 ∨ 32767 < x.start
      · rw [if_pos hs]
        repeat' (first | (refine O_ef rfl (Ef_call (I := []) WideF.wide (hck _) ⟨rfl, rfl, trivial⟩ rfl ?_); rintro v H2 I2 hle2 ⟨rfl, rfl⟩); have hc := hc.mono hle2 | refine O_nil ?_ | refine A_seq ?_ | refine A_region ?_ | refine A_skip ?_ | refine A_ret ?_ | refine A_block ?_ | (show opsA _ _ _ _ _ _ _; first | (refine O_split rfl rfl (fun h => ?_) (fun h => ?_) <;> try (exfalso; omega)) | refine O_ev WideF.wide rfl (Ev_pure rfl) rfl rfl ?_ | (show opsA _ _ _ _ (⟨_, .load _ _, _, _, _, _⟩ :: _) _ _; first | refine O_ev WideF.wide rfl (Ev_loadH1 rfl (hc 0 _ rfl)) rfl rfl ?_ | refine O_ev WideF.wide rfl (Ev_loadH1 rfl (hc 1 _ rfl)) rfl rfl ?_ | refine O_ev WideF.wide rfl (Ev_loadH1 rfl (hc 2 _ rfl)) rfl rfl ?_) | (show opsA _ _ _ _ (⟨_, .indexAddr _ _ _, _, _, _, _⟩ :: _) _ _; refine O_ev WideF.wide rfl (Ev_indexAddr rfl rfl (by omega) (by omega)) rfl rfl ?_) | (show opsA _ _ _ _ (⟨_, .fieldAddr _ _ _, _, _, _, _⟩ :: _) _ _; refine O_ev WideF.wide rfl (Ev_fieldAddr rfl rfl rfl) rfl rfl ?_) | (show opsA _ _ _ _ (⟨_, .call _, _, _, _, _⟩ :: _) _ _; refine O_ev WideF.wide rfl (Ev_llen rfl) rfl rfl ?_) | (show opsA _ _ _ _ (⟨_, .binOp _ _ _ _ _, _, _, _, _⟩ :: _) _ _; refine O_ev WideF.wide rfl (Ev_add rfl rfl (wi64 (by omega))) rfl rfl ?_) | refine O_skip WideF.wide rfl rfl rfl ?_) | (show wpA _ _ _ (.cond _ _ _) _ _ _ _; first | (refine A_if rfl (fun h => ?_) (fun h => ?_) <;> try (exfalso; omega)) | refine A_iftrue rfl ?_))
        all_goals first
          | (exfalso; omega)
          | exact End_e (Ret1 rfl rfl) ⟨rfl, rfl⟩
      rw [if_neg hs]
      by_cases he : chkT x.tpl ((i : Int) + 1) = 0
      · rw [if_neg (by simpa using he)]
        simp only [he] at hck
        by_cases hr : x.restart < 0 ∨ (i : Int) < x.restart
        · rw [if_pos hr]
          repeat' (first | (refine O_ef rfl (Ef_call (I := []) WideF.wide (hck _) ⟨rfl, rfl, trivial⟩ rfl ?_); rintro v H2 I2 hle2 ⟨rfl, rfl⟩); have hc := hc.mono hle2 | refine O_nil ?_ | refine A_seq ?_ | refine A_region ?_ | refine A_skip ?_ | refine A_ret ?_ | refine A_block ?_ | (show opsA _ _ _ _ _ _ _; first | (refine O_split rfl rfl (fun h => ?_) (fun h => ?_) <;> try (exfalso; omega)) | refine O_ev WideF.wide rfl (Ev_pure rfl) rfl rfl ?_ | (show opsA _ _ _ _ (⟨_, .load _ _, _, _, _, _⟩ :: _) _ _; first | refine O_ev WideF.wide rfl (Ev_loadH1 rfl (hc 0 _ rfl)) rfl rfl ?_ | refine O_ev WideF.wide rfl (Ev_loadH1 rfl (hc 1 _ rfl)) rfl rfl ?_ | refine O_ev WideF.wide rfl (Ev_loadH1 rfl (hc 2 _ rfl)) rfl rfl ?_ | refine O_ev WideF.wide rfl (Ev_loadH1 rfl (hc 3 _ rfl)) rfl rfl ?_) | (show opsA _ _ _ _ (⟨_, .indexAddr _ _ _, _, _, _, _⟩ :: _) _ _; refine O_ev WideF.wide rfl (Ev_indexAddr rfl rfl (by omega) (by omega)) rfl rfl ?_) | (show opsA _ _ _ _ (⟨_, .fieldAddr _ _ _, _, _, _, _⟩ :: _) _ _; refine O_ev WideF.wide rfl (Ev_fieldAddr rfl rfl rfl) rfl rfl ?_) | (show opsA _ _ _ _ (⟨_, .call _, _, _, _, _⟩ :: _) _ _; refine O_ev WideF.wide rfl (Ev_llen rfl) rfl rfl ?_) | (show opsA _ _ _ _ (⟨_, .binOp _ _ _ _ _, _, _, _, _⟩ :: _) _ _; refine O_ev WideF.wide rfl (Ev_add rfl rfl (wi64 (by omega))) rfl rfl ?_) | refine O_skip WideF.wide rfl rfl rfl ?_) | (show wpA _ _ _ (.cond _ _ _) _ _ _ _; first | (refine A_if rfl (fun h => ?_) (fun h => ?_) <;> try (exfalso; omega)) | refine A_iftrue rfl ?_))
          all_goals first
            | (exfalso; omega)
            | (exfalso; exact absurd trivial (by assumption))
            | exact End_e (Ret1 rfl rfl) ⟨rfl, rfl⟩
        · rw [if_neg hr] at hg ⊢
          rw [if_neg hf, if_neg hs, if_neg (by simpa using he)] at hg
          rw [← hg]
          repeat' (first | (refine O_ef rfl (Ef_call (I := []) WideF.wide (hck _) ⟨rfl, rfl, trivial⟩ rfl ?_); rintro v H2 I2 hle2 ⟨rfl, rfl⟩); have hc := hc.mono hle2 | refine O_nil ?_ | refine A_seq ?_ | refine A_region ?_ | refine A_skip ?_ | refine A_block ?_ | (show opsA _ _ _ _ _ _ _; first | (refine O_split rfl rfl (fun h => ?_) (fun h => ?_) <;> try (exfalso; omega)) | refine O_ev WideF.wide rfl (Ev_pure rfl) rfl rfl ?_ | (show opsA _ _ _ _ (⟨_, .load _ _, _, _, _, _⟩ :: _) _ _; first | refine O_ev WideF.wide rfl (Ev_loadH1 rfl (hc 0 _ rfl)) rfl rfl ?_ | refine O_ev WideF.wide rfl (Ev_loadH1 rfl (hc 1 _ rfl)) rfl rfl ?_ | refine O_ev WideF.wide rfl (Ev_loadH1 rfl (hc 2 _ rfl)) rfl rfl ?_ | refine O_ev WideF.wide rfl (Ev_loadH1 rfl (hc 3 _ rfl)) rfl rfl ?_) | (show opsA _ _ _ _ (⟨_, .indexAddr _ _ _, _, _, _, _⟩ :: _) _ _; refine O_ev WideF.wide rfl (Ev_indexAddr rfl rfl (by omega) (by omega)) rfl rfl ?_) | (show opsA _ _ _ _ (⟨_, .fieldAddr _ _ _, _, _, _, _⟩ :: _) _ _; refine O_ev WideF.wide rfl (Ev_fieldAddr rfl rfl rfl) rfl rfl ?_) | (show opsA _ _ _ _ (⟨_, .call _, _, _, _, _⟩ :: _) _ _; refine O_ev WideF.wide rfl (Ev_llen rfl) rfl rfl ?_) | (show opsA _ _ _ _ (⟨_, .binOp _ _ _ _ _, _, _, _, _⟩ :: _) _ _; refine O_ev WideF.wide rfl (Ev_add rfl rfl (wi64 (by omega))) rfl rfl ?_)) | (show wpA _ _ _ (.cond _ _ _) _ _ _ _; (refine A_if rfl (fun h => ?_) (fun h => ?_) <;> try (exfalso; omega))))
          all_goals try (exfalso; omega)
          all_goals try (exfalso; exact absurd trivial (by assumption))
          all_goals
            refine Shift.to ⟨_, ?_, i + 1, _, rfl, by omega, hl1.trans hle2, hg, rfl⟩ ⟨rfl, rfl, rfl, ⟨rfl, rfl, trivial⟩, Own.sub_nil _⟩
            omega
      · rw [if_pos (by simpa using he)]
        generalize chkT x.tpl ((i : Int) + 1) = e at hck he
        repeat' (first | (refine O_ef rfl (Ef_call (I := []) WideF.wide (hck _) ⟨rfl, rfl, trivial⟩ rfl ?_); rintro v H2 I2 hle2 ⟨rfl, rfl⟩); have hc := hc.mono hle2 | refine O_nil ?_ | refine A_seq ?_ | refine A_region ?_ | refine A_skip ?_ | refine A_ret ?_ | refine A_block ?_ | (show opsA _ _ _ _ _ _ _; first | (refine O_split rfl rfl (fun h => ?_) (fun h => ?_) <;> try (exfalso; omega)) | refine O_ev WideF.wide rfl (Ev_pure rfl) rfl rfl ?_ | (show opsA _ _ _ _ (⟨_, .load _ _, _, _, _, _⟩ :: _) _ _; first | refine O_ev WideF.wide rfl (Ev_loadH1 rfl (hc 0 _ rfl)) rfl rfl ?_ | refine O_ev WideF.wide rfl (Ev_loadH1 rfl (hc 1 _ rfl)) rfl rfl ?_ | refine O_ev WideF.wide rfl (Ev_loadH1 rfl (hc 2 _ rfl)) rfl rfl ?_) | (show opsA _ _ _ _ (⟨_, .indexAddr _ _ _, _, _, _, _⟩ :: _) _ _; refine O_ev WideF.wide rfl (Ev_indexAddr rfl rfl (by omega) (by omega)) rfl rfl ?_) | (show opsA _ _ _ _ (⟨_, .fieldAddr _ _ _, _, _, _, _⟩ :: _) _ _; refine O_ev WideF.wide rfl (Ev_fieldAddr rfl rfl rfl) rfl rfl ?_) | (show opsA _ _ _ _ (⟨_, .call _, _, _, _, _⟩ :: _) _ _; refine O_ev WideF.wide rfl (Ev_llen rfl) rfl rfl ?_) | (show opsA _ _ _ _ (⟨_, .binOp _ _ _ _ _, _, _, _, _⟩ :: _) _ _; refine O_ev WideF.wide rfl (Ev_add rfl rfl (wi64 (by omega))) rfl rfl ?_)) | (show wpA _ _ _ (.cond _ _ _) _ _ _ _; (refine A_if rfl (fun h => ?_) (fun h => ?_) <;> try (exfalso; omega))))
        all_goals first
          | (exfalso; omega)
          | exact End_e (Ret1 rfl rfl) ⟨rfl, rfl⟩
    · have hin : i = n := by omega
      subst hin
      rw [hg, List.drop_eq_nil_of_le (by omega)]
      repeat' (first | refine O_nil ?_ | refine A_seq ?_ | refine A_region ?_ | refine A_ret ?_ | (show opsA _ _ _ _ _ _ _; first | refine O_ev WideF.wide rfl (Ev_pure rfl) rfl rfl ?_ | (show opsA _ _ _ _ (⟨_, .call _, _, _, _, _⟩ :: _) _ _; refine O_ev WideF.wide rfl (Ev_llen rfl) rfl rfl ?_)) | (show wpA _ _ _ (.exit _) _ _ _ _; refine A_exit rfl ?_) | (show wpA _ _ _ (.cond _ _ _) _ _ _ _; (refine A_if rfl (fun h => ?_) (fun h => ?_) <;> try (exfalso; omega))))
      all_goals first
        | (exfalso; omega)
        | exact End_e (Ret1 rfl rfl) ⟨rfl, rfl⟩
end Go.Proofs.YtaneeaojlkenmaaGreatDoor
