/-
  symMergeCmpFunc of longer parts; stableCmpFunc of any 40.
-/
import Derived.Test.YtlcoebomgaodgaaQ19
namespace Go.Proofs.Ytlcoebomgaodgaa
open Go
set_option linter.unusedVariables false
set_option linter.unusedSimpArgs false
/-- where the exchange goes: what the search finds -/
theorem sm_cut {u v : List Rev} {M s : Nat} (hu : Srt u) (hv : Srt v) (hs1 : s ≤ u.length) (hs2 : s ≤ M) (hs3 : M - s ≤ v.length)
    (h1 : s = 0 ∨ M - s = v.length ∨ ∀ x y, u[s - 1]? = some x → v[M - s]? = some y → ¬ ltR y x)
    (h2 : s = u.length ∨ s = M ∨ ∀ x y, u[s]? = some x → v[M - 1 - s]? = some y → ltR y x) :
    isort (u.take s ++ v.take (M - s)) ++ isort (u.drop s ++ v.drop (M - s)) = isort (u ++ v) := by
  have eu : u = u.take s ++ u.drop s := (List.take_append_drop ..).symm
  have ev : v = v.take (M - s) ++ v.drop (M - s) := (List.take_append_drop ..).symm
  have h := sm_split (u1 := u.take s) (u2 := u.drop s) (v1 := v.take (M - s)) (v2 := v.drop (M - s)) (by rw [← eu]; exact hu) (by rw [← ev]; exact hv) ?_ ?_
  · rw [h, ← eu, ← ev]
  · intro x hx y hy
    obtain ⟨i, hi⟩ := List.getElem?_of_mem hx
    obtain ⟨j, hj⟩ := List.getElem?_of_mem hy
    rw [List.getElem?_take] at hi
    rw [List.getElem?_drop] at hj
    split at hi
    case isFalse => cases hi
    have hjl : M - s + j < v.length := (List.getElem?_eq_some_iff.1 hj).1
    rcases h1 with h1 | h1 | h1
    · omega
    · omega
    · obtain ⟨x', hx'⟩ : ∃ x, u[s - 1]? = some x := ⟨u[s - 1], List.getElem?_eq_getElem (by omega)⟩
      obtain ⟨y', hy'⟩ : ∃ y, v[M - s]? = some y := ⟨v[M - s], List.getElem?_eq_getElem (by omega)⟩
      have q1 := h1 x' y' hx' hy'
      have q2 := srt_get hu (by omega : i ≤ s - 1) hi hx'
      have q3 := srt_get hv (by omega : M - s ≤ M - s + j) hy' hj
      rw [not_ltR] at q1 q2 q3 ⊢
      omega
  · intro x hx y hy
    obtain ⟨i, hi⟩ := List.getElem?_of_mem hx
    obtain ⟨j, hj⟩ := List.getElem?_of_mem hy
    rw [List.getElem?_drop] at hi
    rw [List.getElem?_take] at hj
    split at hj
    case isFalse => cases hj
    have hil : s + i < u.length := (List.getElem?_eq_some_iff.1 hi).1
    rcases h2 with h2 | h2 | h2
    · omega
    · omega
    · obtain ⟨x', hx'⟩ : ∃ x, u[s]? = some x := ⟨u[s], List.getElem?_eq_getElem (by omega)⟩
      obtain ⟨y', hy'⟩ : ∃ y, v[M - 1 - s]? = some y := ⟨v[M - 1 - s], List.getElem?_eq_getElem (by omega)⟩
      have q1 := h2 x' y' hx' hy'
      have q2 := srt_get hu (by omega : s ≤ s + i) hx' hi
      have q3 := srt_get hv (by omega : j ≤ M - 1 - s) hj hy'
      rw [not_ltR] at q2 q3
      rw [ltR_iff] at q1 ⊢
      omega
attribute [local irreducible] wpA opsA drJ drQ drE Ef Ev Shift Fn
set_option maxRecDepth 100000 in
set_option maxHeartbeats 4000000 in
theorem sm_rest {N : Nat} (hN : SM N) {H : Hp} {bb no co : Nat} {pre u v post : List Rev} {ta tm tb : Int} (hu0 : 1 < u.length) (hv0 : 1 < v.length) (hNl : u.length + v.length ≤ N + 1) (hta : ta = (pre.length : Int)) (htm : tm = (pre.length : Int) + u.length) (htb : tb = (pre.length : Int) + u.length + v.length) (hno : pre.length + u.length + v.length + post.length = no) (hm : no < 1048576) (hu : Srt u) (hv : Srt v) :
    Fn Try.prog 103 [.slice (some ⟨bb, 0, none⟩) no co, .int .i64 ta, .int .i64 tm, .int .i64 tb, chronV] H [.row (.slice (some ⟨bb, 0, none⟩) no co) 3 ((pre ++ u ++ v ++ post).map rrow)] fun w H' I' => w = .tuple #[] ∧ H' = H ∧ I' = [.row (.slice (some ⟨bb, 0, none⟩) no co) 3 ((pre ++ isort (u ++ v) ++ post).map rrow)] := by
  have hch := fun Hx x y => Chron1_fn (H := Hx) (x := y) (y := x)
  obtain ⟨p, hp⟩ : ∃ p, p = pre.length := ⟨_, rfl⟩
  obtain ⟨M, hM⟩ : ∃ M, M = (u.length + v.length) / 2 := ⟨_, rfl⟩
  rw [← hp] at hta htm htb hno
  have hI : (ta + tb) / 2 = ((p + M : Nat) : Int) := by omega
  obtain ⟨css, hcs⟩ : ∃ css, css = (pre ++ u ++ v ++ post).map rrow := ⟨_, rfl⟩
  have hcl : css.length = no := by rw [hcs]; simp; omega
  have gu : ∀ q x, u[q]? = some x → css[p + q]? = some (rrow x) := fun q x hx => by have := at_app (A := pre) (B := u) (m := p) hp.symm hx (v ++ post); rw [hcs]; simpa using this
  have gv : ∀ q y, v[q]? = some y → css[p + u.length + q]? = some (rrow y) := fun q y hy => by have := at_app (A := pre ++ u) (B := v) (m := p + u.length) (by simp; omega) hy post; rw [hcs]; exact this
  rw [← hcs]
  refine Fn_of _ _ Try.func103 rfl Try.ntmps103 rfl fun c => ?_
  repeat' (first | (refine O_ev WideF.wide rfl (Ev_conv (k2 := .u64) rfl (wu64 (by omega))) rfl rfl ?_) | (refine O_ev WideF.wide rfl (Ev_half rfl rfl) rfl rfl ?_; rw [hI]) | ((fail_if_success (show wpA _ _ _ _ (Shift _ _) _ _ _)); show wpA _ _ _ (.cond (.tmp 140) _ _) _ _ _ _; refine A_cutu (fun st => ∃ (s0 r0 : Nat) (ts tr : Int), ((M < u.length ∧ s0 = M - v.length ∧ r0 = M) ∨ (u.length ≤ M ∧ s0 = 0 ∧ r0 = u.length)) ∧ ts = (p : Int) + s0 ∧ tr = (p : Int) + r0 ∧ st = ⟨220, [(0, .slice (some ⟨bb, 0, none⟩) no co), (1, .int .i64 ta), (2, .int .i64 tm), (3, .int .i64 tb), (4, chronV), (18, .int .i64 ((p + M : Nat) : Int)), (19, .int .i64 (((p + M : Nat) : Int) + tm)), (20, .int .i64 ts), (21, .int .i64 tr)], H, [.row (.slice (some ⟨bb, 0, none⟩) no co) 3 css], [], []⟩) ?_ ?_) | refine O_nil ?_ | refine A_seq ?_ | refine A_region ?_ | refine A_skip ?_ | (show opsA _ _ _ _ _ _ _; first | refine O_ev WideF.wide rfl (Ev_pure rfl) rfl rfl ?_ | (show opsA _ _ _ _ (⟨_, .binOp _ _ _ _ _, _, _, _, _⟩ :: _) _ _; first | refine O_ev WideF.wide rfl (Ev_add rfl rfl (wi64 (by omega))) rfl rfl ?_ | refine O_ev WideF.wide rfl (Ev_sub rfl rfl (wi64 (by omega))) rfl rfl ?_) | (show opsA _ _ _ _ (⟨_, .convert _ _ _, _, _, _, _⟩ :: _) _ _; refine O_ev WideF.wide rfl (Ev_conv (k2 := .i64) rfl (wi64 (by omega))) rfl rfl ?_)) | (show wpA _ _ _ (.cond _ _ _) _ _ _ _; (refine A_if rfl (fun h => ?_) (fun h => ?_) <;> try (exfalso; omega))))
  all_goals try (exfalso; omega)
  · exact Shift.to ⟨M - v.length, M, _, _, .inl ⟨by omega, rfl, rfl⟩, by omega, by omega, rfl⟩ ⟨rfl, rfl, rfl, ⟨rfl, rfl, rfl, rfl, rfl, rfl, rfl, rfl, rfl, trivial⟩, Own.subi [0] (by decide) rfl rfl⟩
  · exact Shift.to ⟨0, u.length, _, _, .inr ⟨by omega, rfl, rfl⟩, by omega, by omega, rfl⟩ ⟨rfl, rfl, rfl, ⟨rfl, rfl, rfl, rfl, rfl, rfl, rfl, rfl, rfl, trivial⟩, Own.subi [0] (by decide) rfl rfl⟩
  rintro st ⟨s0, r0, ts, tr, hsr, hts, htr, rfl⟩
  show wpA _ _ _ _ _ _ _ _
  repeat' (first | refine O_nil ?_ | refine A_seq ?_ | refine A_region ?_ | refine A_block ?_ | (show opsA _ _ _ _ _ _ _; first | refine O_ev WideF.wide rfl (Ev_pure rfl) rfl rfl ?_ | (show opsA _ _ _ _ (⟨_, .binOp _ _ _ _ _, _, _, _, _⟩ :: _) _ _; refine O_ev WideF.wide rfl (Ev_sub rfl rfl (wi64 (by omega))) rfl rfl ?_)))
  refine A_loopu (fun m st => ∃ (s r : Nat) (ts tr : Int), m = r - s ∧ s0 ≤ s ∧ s ≤ r ∧ r ≤ r0 ∧ ts = (p : Int) + s ∧ tr = (p : Int) + r ∧ (s = s0 ∨ ∀ x y, u[s - 1]? = some x → v[M - s]? = some y → ¬ ltR y x) ∧ (r = r0 ∨ ∀ x y, u[r]? = some x → v[M - 1 - r]? = some y → ltR y x) ∧ st = ⟨220, [(0, .slice (some ⟨bb, 0, none⟩) no co), (1, .int .i64 ta), (2, .int .i64 tm), (3, .int .i64 tb), (4, chronV), (18, .int .i64 ((p + M : Nat) : Int)), (19, .int .i64 (((p + M : Nat) : Int) + tm)), (20, .int .i64 ts), (21, .int .i64 tr), (22, .int .i64 (((p + M : Nat) : Int) + tm - 1))], H, [.row (.slice (some ⟨bb, 0, none⟩) no co) 3 css], [], []⟩) ?_ ?_
  · exact Shift.to ⟨_, s0, r0, _, _, rfl, by omega, by omega, by omega, hts, htr, .inl rfl, .inl rfl, rfl⟩ ⟨rfl, rfl, rfl, ⟨rfl, rfl, rfl, rfl, rfl, rfl, rfl, rfl, rfl, rfl, trivial⟩, Own.subi [0] (by decide) rfl rfl⟩
  · rintro m st ⟨s, r, ts, tr, rfl, hs0, hsr2, hr0, hts, htr, h1, h2, rfl⟩
    by_cases hlt : s < r
    · obtain ⟨md, hh⟩ : ∃ md : Nat, md = (s + r) / 2 := ⟨_, rfl⟩
      have hI2 : (ts + tr) / 2 = ((p + md : Nat) : Int) := by omega
      have hMb : M < 1048576 := by omega
      obtain ⟨k, hk⟩ : ∃ k : Nat, k + md + 1 = M := ⟨M - 1 - md, by omega⟩
      have hkm : M - 1 - md = k := by omega
      have hkv : k < v.length := by omega
      have hmu : md < u.length := by omega
      have m1 : s ≤ md := by omega
      have m2 : md < r := by omega
      obtain ⟨x, hx⟩ : ∃ x, u[md]? = some x := ⟨u[md], List.getElem?_eq_getElem hmu⟩
      obtain ⟨y, hy⟩ : ∃ y, v[k]? = some y := ⟨v[k], List.getElem?_eq_getElem hkv⟩
      have gx := gu md x hx
      have gy := gv _ y hy
      clear hI hM hh hsr gu gv hcs hNl
      have hI := hI2
      clear hI2
      repeat' (first | (refine A_drawL WideF.wide (.q 0 (.q 1 (.q 2 (.q 3 (.q 4 (.q 5 (.q 6 (.q 7 (.q 8 (.q 9 (.q 10 (.e 11 (.q 12 (.q 13 (.done []))))))))))))))) [] (by decide +kernel) ?_) | (refine O_ev WideF.wide rfl (Ev_conv (k2 := .u64) rfl (wu64 (by omega))) rfl rfl ?_) | (refine O_ev WideF.wide rfl (Ev_half rfl rfl) rfl rfl ?_; rw [hI]) | (refine D_ev rfl (Ev_loadR (q := 0) rfl rfl gx (by omega) rfl) rfl rfl ?_) | (refine D_ev rfl (Ev_loadR (q := 0) rfl rfl gy (by omega) rfl) rfl rfl ?_) | (refine E_ef rfl (Ef_callvp WideF.wide (hch _ _ _) rfl ⟨rfl, rfl, trivial⟩ rfl ?_); refine ⟨Grow.same rfl rfl, ?_⟩) | refine O_nil ?_ | refine A_seq ?_ | refine A_region ?_ | refine A_skip ?_ | refine A_block ?_ | (show drJ _ _ _ _ _ _ _ (.q _ _) _; refine D_q rfl ?_) | (show drJ _ _ _ _ _ _ _ (.e _ _) _; refine D_e rfl ?_) | (show drJ _ _ _ _ _ _ _ (.done _) _; refine D_done ?_; simp only [List.cons_append, List.nil_append]) | (show drQ _ _ _ _ _ _; first | refine D_ev rfl (Ev_pure rfl) rfl rfl ?_ | (show drQ _ _ _ ⟨_, .indexAddr _ _ _, _, _, _, _⟩ _ _; refine D_ev rfl (Ev_indexAddr rfl rfl (by omega) (by omega)) rfl rfl ?_) | (show drQ _ _ _ ⟨_, .binOp _ _ _ _ _, _, _, _, _⟩ _ _; refine D_ev rfl (Ev_sub rfl rfl (wi64 (by omega))) rfl rfl ?_) | (show drQ _ _ _ ⟨_, .unOp _ _ _, _, _, _, _⟩ _ _; refine D_ev rfl (Ev_not rfl) rfl rfl ?_)) | (show opsA _ _ _ _ _ _ _; first | refine O_ev WideF.wide rfl (Ev_pure rfl) rfl rfl ?_ | (show opsA _ _ _ _ (⟨_, .binOp _ _ _ _ _, _, _, _, _⟩ :: _) _ _; refine O_ev WideF.wide rfl (Ev_add rfl rfl (wi64 (by omega))) rfl rfl ?_) | (show opsA _ _ _ _ (⟨_, .convert _ _ _, _, _, _, _⟩ :: _) _ _; refine O_ev WideF.wide rfl (Ev_conv (k2 := .i64) rfl (wi64 (by omega))) rfl rfl ?_)) | (show wpA _ _ _ (.cond _ _ _) _ _ _ _; (refine A_if rfl (fun h => ?_) (fun h => ?_) <;> try (exfalso; omega))))
      all_goals first
        | (exfalso; omega)
        | (have hc : ¬ cmpR y x < 0 := by assumption
           refine Shift.to ⟨_, ?_, md + 1, r, _, _, rfl, by omega, by omega, hr0, ?_, htr, .inr ?_, h2, rfl⟩ ⟨rfl, rfl, rfl, ⟨rfl, rfl, rfl, rfl, rfl, rfl, rfl, rfl, rfl, rfl, trivial⟩, Own.subi [0] (by decide) rfl rfl⟩
           · omega
           · omega
           · intro x' y' hx' hy'
             rw [Nat.add_sub_cancel, hx] at hx'
             rw [show M - (md + 1) = k by omega, hy] at hy'
             cases hx'; cases hy'
             exact hc)
        | (have hc : cmpR y x < 0 := Decidable.not_not.1 (by assumption)
           refine Shift.to ⟨_, ?_, s, md, _, _, rfl, hs0, by omega, by omega, hts, ?_, h1, .inr ?_, rfl⟩ ⟨rfl, rfl, rfl, ⟨rfl, rfl, rfl, rfl, rfl, rfl, rfl, rfl, rfl, rfl, trivial⟩, Own.subi [0] (by decide) rfl rfl⟩
           · omega
           · omega
           · intro x' y' hx' hy'
             rw [hx] at hx'
             rw [hkm, hy] at hy'
             cases hx'; cases hy'
             exact hc)
    · have hrs : r = s := by omega
      subst hrs
      have hfin := sm_cut (s := r) (M := M) hu hv (by omega) (by omega) (by omega) (by rcases h1 with h1 | h1 <;> first | (exact .inr (.inr h1)) | omega) (by rcases h2 with h2 | h2 <;> first | (exact .inr (.inr h2)) | omega)
      have eu : u = u.take r ++ u.drop r := (List.take_append_drop ..).symm
      have ev : v = v.take (M - r) ++ v.drop (M - r) := (List.take_append_drop ..).symm
      have lu1 : (u.take r).length = r := by rw [List.length_take]; omega
      have lu2 : (u.drop r).length + r = u.length := by rw [List.length_drop]; omega
      have lv1 : (v.take (M - r)).length + r = M := by rw [List.length_take]; omega
      have lv2 : (v.drop (M - r)).length + M = v.length + r := by rw [List.length_drop]; omega
      have hMb : M < 1048576 := by omega
      have su1 : Srt (u.take r) := List.Pairwise.sublist (List.take_sublist _ _) hu
      have su2 : Srt (u.drop r) := List.Pairwise.sublist (List.drop_sublist _ _) hu
      have sv1 : Srt (v.take (M - r)) := List.Pairwise.sublist (List.take_sublist _ _) hv
      have sv2 : Srt (v.drop (M - r)) := List.Pairwise.sublist (List.drop_sublist _ _) hv
      have hcs' : css = (pre ++ u.take r ++ u.drop r ++ (v.take (M - r) ++ v.drop (M - r)) ++ post).map rrow := by rw [hcs, List.append_assoc pre (u.take r), ← eu, ← ev]
      generalize u.take r = u1 at lu1 su1 hfin hcs'
      generalize u.drop r = u2 at lu2 su2 hfin hcs'
      generalize v.take (M - r) = v1 at lv1 sv1 hfin hcs'
      generalize v.drop (M - r) = v2 at lv2 sv2 hfin hcs'
      clear eu ev h1 h2 gu gv
      rw [← hfin]
      clear hcs hfin
      obtain ⟨css1, hc1⟩ : ∃ z, z = ((pre ++ u1 ++ v1) ++ u2 ++ (v2 ++ post)).map rrow := ⟨_, rfl⟩
      obtain ⟨css2, hc2⟩ : ∃ z, z = ((pre ++ isort (u1 ++ v1)) ++ u2 ++ v2 ++ post).map rrow := ⟨_, rfl⟩
      obtain ⟨css3, hc3⟩ : ∃ z, z = (pre ++ (isort (u1 ++ v1) ++ isort (u2 ++ v2)) ++ post).map rrow := ⟨_, rfl⟩
      have hrot : 0 < u2.length ∧ 0 < v1.length → ∀ Hx (t1 t2 t3 : Int), t1 = (p : Int) + r → t2 = (p : Int) + u.length → t3 = (p : Int) + u.length + v1.length → Fn Try.prog 114 [.slice (some ⟨bb, 0, none⟩) no co, .int .i64 t1, .int .i64 t2, .int .i64 t3, chronV] Hx [.row (.slice (some ⟨bb, 0, none⟩) no co) 3 css] fun w H' I' => w = .tuple #[] ∧ H' = Hx ∧ I' = [.row (.slice (some ⟨bb, 0, none⟩) no co) 3 css1] := by
        intro hh Hx t1 t2 t3 q1 q2 q3
        have h := rotate_fn (H := Hx) (bb := bb) (no := no) (co := co) (m := p + u.length) (ta := t1) (tm := t2) (tb := t3) (pre := pre ++ u1) (u := u2) (v := v1) (post := v2 ++ post) (by rw [List.length_append]; omega) (by omega) (by omega) (by rw [List.length_append]; omega) hh.1 hh.2 (by rw [List.length_append]; omega) hm
        have e1 : css = (pre ++ u1 ++ u2 ++ v1 ++ (v2 ++ post)).map rrow := by rw [hcs']; simp
        rw [e1, hc1]
        exact h
      have hrot' : ¬ (0 < u2.length ∧ 0 < v1.length) → css = css1 := by
        intro hh
        rw [hcs', hc1]
        rcases (by omega : u2.length = 0 ∨ v1.length = 0) with h | h <;> (have h := List.eq_nil_of_length_eq_zero h; subst h; simp)
      have hl : 0 < u1.length ∧ 0 < v1.length → ∀ Hx (t1 t2 t3 : Int), t1 = (p : Int) → t2 = (p : Int) + r → t3 = (p : Int) + M → Fn Try.prog 103 [.slice (some ⟨bb, 0, none⟩) no co, .int .i64 t1, .int .i64 t2, .int .i64 t3, chronV] Hx [.row (.slice (some ⟨bb, 0, none⟩) no co) 3 css1] fun w H' I' => w = .tuple #[] ∧ H' = Hx ∧ I' = [.row (.slice (some ⟨bb, 0, none⟩) no co) 3 css2] := by
        intro hh Hx t1 t2 t3 q1 q2 q3
        have h := hN Hx bb no co pre u1 v1 (u2 ++ v2 ++ post) t1 t2 t3 (by omega) hh.1 hh.2 (by omega) (by omega) (by omega) (by rw [List.length_append, List.length_append]; omega) hm su1 sv1
        have e1 : css1 = (pre ++ u1 ++ v1 ++ (u2 ++ v2 ++ post)).map rrow := by rw [hc1]; simp
        have e2 : css2 = (pre ++ isort (u1 ++ v1) ++ (u2 ++ v2 ++ post)).map rrow := by rw [hc2]; simp
        rw [e1, e2]
        exact h
      have hl' : ¬ (0 < u1.length ∧ 0 < v1.length) → css1 = css2 := by
        intro hh
        have e : isort (u1 ++ v1) = u1 ++ v1 := by
          rcases (by omega : u1.length = 0 ∨ v1.length = 0) with h | h <;> (have h := List.eq_nil_of_length_eq_zero h; subst h)
          · rw [List.nil_append]; exact isort_fix sv1
          · rw [List.append_nil]; exact isort_fix su1
        rw [hc1, hc2, e]; simp
      have hr : 0 < u2.length ∧ 0 < v2.length → ∀ Hx (t1 t2 t3 : Int), t1 = (p : Int) + M → t2 = (p : Int) + u.length + v1.length → t3 = (p : Int) + u.length + v.length → Fn Try.prog 103 [.slice (some ⟨bb, 0, none⟩) no co, .int .i64 t1, .int .i64 t2, .int .i64 t3, chronV] Hx [.row (.slice (some ⟨bb, 0, none⟩) no co) 3 css2] fun w H' I' => w = .tuple #[] ∧ H' = Hx ∧ I' = [.row (.slice (some ⟨bb, 0, none⟩) no co) 3 css3] := by
        intro hh Hx t1 t2 t3 q1 q2 q3
        have h := hN Hx bb no co (pre ++ isort (u1 ++ v1)) u2 v2 post t1 t2 t3 (by omega) hh.1 hh.2 (by rw [List.length_append, isort_len, List.length_append]; omega) (by rw [List.length_append, isort_len, List.length_append]; omega) (by rw [List.length_append, isort_len, List.length_append]; omega) (by rw [List.length_append, isort_len, List.length_append]; omega) hm su2 sv2
        have e2 : css3 = (pre ++ isort (u1 ++ v1) ++ isort (u2 ++ v2) ++ post).map rrow := by rw [hc3]; simp
        rw [hc2, e2]
        exact h
      have hr' : ¬ (0 < u2.length ∧ 0 < v2.length) → css2 = css3 := by
        intro hh
        have e : isort (u2 ++ v2) = u2 ++ v2 := by
          rcases (by omega : u2.length = 0 ∨ v2.length = 0) with h | h <;> (have h := List.eq_nil_of_length_eq_zero h; subst h)
          · rw [List.nil_append]; exact isort_fix sv2
          · rw [List.append_nil]; exact isort_fix su2
        rw [hc2, hc3, e]; simp
      rw [← hc3]
      clear hcs' hc1 hc2 hc3 hM hsr hI su1 su2 sv1 sv2 hNl hch
      by_cases r1 : 0 < u2.length ∧ 0 < v1.length
      case' neg => obtain rfl := hrot' r1
      all_goals by_cases r2 : 0 < u1.length ∧ 0 < v1.length
      all_goals first | (have e2 := hl' r2; clear hl'; subst e2) | skip
      all_goals by_cases r3 : 0 < u2.length ∧ 0 < v2.length
      all_goals first | (have e3 := hr' r3; clear hr'; subst e3) | skip
      all_goals (
        repeat' (first | (refine O_ef rfl (Ef_call (I := [_]) WideF.wide (hrot r1 _ _ _ _ (by omega) (by omega) (by omega)) ⟨rfl, rfl, rfl, rfl, rfl, trivial⟩ rfl ?_); rintro w H2 I2 hle2 ⟨rfl, rfl, rfl⟩) | (refine O_ef rfl (Ef_call (I := [_]) WideF.wide (hl r2 _ _ _ _ (by omega) (by omega) (by omega)) ⟨rfl, rfl, rfl, rfl, rfl, trivial⟩ rfl ?_); rintro w H2 I2 hle2 ⟨rfl, rfl, rfl⟩) | (refine O_ef rfl (Ef_call (I := [_]) WideF.wide (hr r3 _ _ _ _ (by omega) (by omega) (by omega)) ⟨rfl, rfl, rfl, rfl, rfl, trivial⟩ rfl ?_); rintro w H2 I2 hle2 ⟨rfl, rfl, rfl⟩) | refine O_nil ?_ | refine A_seq ?_ | refine A_region ?_ | refine A_skip ?_ | (show opsA _ _ _ _ _ _ _; first | (refine O_split rfl rfl (fun h => ?_) (fun h => ?_) <;> try (exfalso; omega)) | refine O_ev WideF.wide rfl (Ev_pure rfl) rfl rfl ?_ | (show opsA _ _ _ _ (⟨_, .binOp _ _ _ _ _, _, _, _, _⟩ :: _) _ _; refine O_ev WideF.wide rfl (Ev_sub rfl rfl (wi64 (by omega))) rfl rfl ?_) | refine O_skip WideF.wide rfl rfl rfl ?_) | (show wpA _ _ _ (.exit _) _ _ _ _; refine A_exit rfl ?_) | (show wpA _ _ _ (.cond _ _ _) _ _ _ _; first | (refine A_if rfl (fun h => ?_) (fun h => ?_) <;> try (exfalso; omega)) | refine A_iffalse rfl ?_)))
      all_goals first
        | (exfalso; omega)
        | exact End_m (Ret0 rfl) ⟨rfl, rfl, rfl⟩
theorem symMerge : ∀ N, SM N
  | 0 => fun H bb no co pre u v post ta tm tb h h0 => by omega
  | N + 1 => fun H bb no co pre u v post ta tm tb h hu0 hv0 hta htm htb hno hm hu hv => by
    by_cases h1 : u.length = 1
    · obtain ⟨x, rfl⟩ := List.length_eq_one_iff.1 h1
      exact sm_left hv0 hta (by simpa using htm) (by simpa using htb) (by simpa using hno) hm hv
    · by_cases h2 : v.length = 1
      · obtain ⟨y, rfl⟩ := List.length_eq_one_iff.1 h2
        exact sm_right (by omega) hta htm (by simpa using htb) (by simpa using hno) hm hu
      · exact sm_rest (symMerge N) (by omega) (by omega) h hta htm htb hno hm hu hv
end Go.Proofs.Ytlcoebomgaodgaa
