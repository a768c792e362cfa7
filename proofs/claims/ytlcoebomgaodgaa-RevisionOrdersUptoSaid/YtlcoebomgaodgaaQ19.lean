/-
  symMergeCmpFunc at revisions.
-/
import Derived.Test.YtlcoebomgaodgaaQ18
namespace Go.Proofs.Ytlcoebomgaodgaa
open Go
set_option linter.unusedVariables false
set_option linter.unusedSimpArgs false
theorem wu64' {x : Int} (h : 0 ≤ x ∧ x < 18446744073709551616) : IntKind.u64.wrap x = x := wu64 h
def SM (N : Nat) : Prop := ∀ (H : Hp) (bb no co : Nat) (pre u v post : List Rev) (ta tm tb : Int), u.length + v.length ≤ N → 0 < u.length → 0 < v.length → ta = (pre.length : Int) → tm = (pre.length : Int) + u.length → tb = (pre.length : Int) + u.length + v.length → pre.length + u.length + v.length + post.length = no → no < 1048576 → Srt u → Srt v →
    Fn Try.prog 103 [.slice (some ⟨bb, 0, none⟩) no co, .int .i64 ta, .int .i64 tm, .int .i64 tb, chronV] H [.row (.slice (some ⟨bb, 0, none⟩) no co) 3 ((pre ++ u ++ v ++ post).map rrow)] fun w H' I' => w = .tuple #[] ∧ H' = H ∧ I' = [.row (.slice (some ⟨bb, 0, none⟩) no co) 3 ((pre ++ isort (u ++ v) ++ post).map rrow)]
theorem at_app {A B : List Rev} {k : Nat} {x : Rev} {m : Nat} (hA : A.length = m) (h : B[k]? = some x) (C : List Rev) : ((A ++ B ++ C).map rrow)[m + k]? = some (rrow x) := by
  subst hA
  have hk : k < B.length := by
    rcases Nat.lt_or_ge k B.length with h' | h'
    · exact h'
    · rw [List.getElem?_eq_none h'] at h; cases h
  rw [List.getElem?_map, List.append_assoc, List.getElem?_append_right (by omega), Nat.add_sub_cancel_left, List.getElem?_append_left hk, h]
  rfl
theorem left_srt {x : Rev} {v : List Rev} {i : Nat} (hv : Srt v) (h1 : ∀ q y, q < i → v[q]? = some y → ltR y x) (h2 : ∀ q y, i ≤ q → v[q]? = some y → ¬ ltR y x) : v.take i ++ x :: v.drop i = isort ([x] ++ v) := by
  have hsp : v = v.take i ++ v.drop i := (List.take_append_drop ..).symm
  have hs2 : Srt (x :: v.drop i) := List.pairwise_cons.2 ⟨fun y hy => by
    obtain ⟨q, hq⟩ := List.getElem?_of_mem hy
    rw [List.getElem?_drop] at hq
    exact h2 _ y (by omega) hq, List.Pairwise.sublist (List.drop_sublist _ _) hv⟩
  have hs1 : Srt (v.take i) := List.Pairwise.sublist (List.take_sublist _ _) hv
  have h := sm_split (u1 := []) (u2 := [x]) (v1 := v.take i) (v2 := v.drop i) (by exact List.pairwise_singleton _ _) (by rw [← hsp]; exact hv) (by simp) (fun z hz y hy => by
    simp at hz; subst hz
    obtain ⟨q, hq⟩ := List.getElem?_of_mem hy
    rw [List.getElem?_take] at hq
    split at hq
    · exact h1 q y (by assumption) hq
    · cases hq)
  rw [← hsp, List.nil_append, List.singleton_append, List.nil_append] at h
  rw [isort_fix hs1, isort_fix hs2] at h
  exact h
theorem right_srt {y : Rev} {u : List Rev} {i : Nat} (hu : Srt u) (h1 : ∀ q x, q < i → u[q]? = some x → ¬ ltR y x) (h2 : ∀ q x, i ≤ q → u[q]? = some x → ltR y x) : u.take i ++ y :: u.drop i = isort (u ++ [y]) := by
  have hsp : u = u.take i ++ u.drop i := (List.take_append_drop ..).symm
  have hs1 : Srt (u.take i ++ [y]) := List.pairwise_append.2 ⟨List.Pairwise.sublist (List.take_sublist _ _) hu, List.pairwise_singleton _ _, fun x hx z hz => by
    simp at hz; subst hz
    obtain ⟨q, hq⟩ := List.getElem?_of_mem hx
    rw [List.getElem?_take] at hq
    split at hq
    · exact h1 q x (by assumption) hq
    · cases hq⟩
  have hs2 : Srt (u.drop i) := List.Pairwise.sublist (List.drop_sublist _ _) hu
  have h := sm_split (u1 := u.take i) (u2 := u.drop i) (v1 := [y]) (v2 := []) (by rw [← hsp]; exact hu) (by exact List.pairwise_singleton _ _) (by simp) (fun x hx z hz => by
    simp at hz; subst hz
    obtain ⟨q, hq⟩ := List.getElem?_of_mem hx
    rw [List.getElem?_drop] at hq
    exact h2 _ x (by omega) hq)
  rw [← hsp, List.append_nil, List.append_nil] at h
  rw [isort_fix hs1, isort_fix hs2] at h
  rw [← h]; simp
attribute [local irreducible] wpA opsA drJ drQ drE Ef Ev Shift Fn
set_option maxRecDepth 100000 in
set_option maxHeartbeats 2000000 in
theorem sm_left {H : Hp} {bb no co : Nat} {pre v post : List Rev} {x : Rev} {ta tm tb : Int} (hv0 : 0 < v.length) (hta : ta = (pre.length : Int)) (htm : tm = (pre.length : Int) + 1) (htb : tb = (pre.length : Int) + 1 + v.length) (hno : pre.length + 1 + v.length + post.length = no) (hm : no < 1048576) (hv : Srt v) :
    Fn Try.prog 103 [.slice (some ⟨bb, 0, none⟩) no co, .int .i64 ta, .int .i64 tm, .int .i64 tb, chronV] H [.row (.slice (some ⟨bb, 0, none⟩) no co) 3 ((pre ++ [x] ++ v ++ post).map rrow)] fun w H' I' => w = .tuple #[] ∧ H' = H ∧ I' = [.row (.slice (some ⟨bb, 0, none⟩) no co) 3 ((pre ++ isort ([x] ++ v) ++ post).map rrow)] := by
  have hch := fun Hx y => Chron1_fn (H := Hx) (x := y) (y := x)
  obtain ⟨p, hp⟩ : ∃ p, p = pre.length := ⟨_, rfl⟩
  rw [← hp] at hta htm htb hno
  obtain ⟨css, hcs⟩ : ∃ css, css = (pre ++ [x] ++ v ++ post).map rrow := ⟨_, rfl⟩
  have hcl : css.length = no := by rw [hcs]; simp; omega
  have ga : css[p]? = some (rrow x) := by have := at_app (A := pre) (B := [x]) (k := 0) (m := p) hp.symm rfl (v ++ post); rw [hcs]; simpa using this
  have gv : ∀ q y, v[q]? = some y → css[p + 1 + q]? = some (rrow y) := fun q y hy => by have := at_app (A := pre ++ [x]) (B := v) (m := p + 1) (by simp; omega) hy post; rw [hcs]; simpa using this
  rw [← hcs]
  refine Fn_of _ _ Try.func103 rfl Try.ntmps103 rfl fun c => ?_
  repeat' (first | refine O_nil ?_ | refine A_seq ?_ | refine A_region ?_ | refine A_block ?_ | (show opsA _ _ _ _ _ _ _; first | refine O_ev WideF.wide rfl (Ev_pure rfl) rfl rfl ?_ | (show opsA _ _ _ _ (⟨_, .binOp _ _ _ _ _, _, _, _, _⟩ :: _) _ _; refine O_ev WideF.wide rfl (Ev_sub rfl rfl (wi64 (by omega))) rfl rfl ?_)) | (show wpA _ _ _ (.cond _ _ _) _ _ _ _; (refine A_if rfl (fun h => ?_) (fun h => ?_) <;> try (exfalso; omega))))
  all_goals try (exfalso; omega)
  refine A_loopu (fun m st => ∃ (i j : Nat) (ti tj : Int), m = j - i ∧ i ≤ j ∧ j ≤ v.length ∧ ti = (p : Int) + 1 + i ∧ tj = (p : Int) + 1 + j ∧ (∀ q y, q < i → v[q]? = some y → ltR y x) ∧ (∀ q y, j ≤ q → v[q]? = some y → ¬ ltR y x) ∧ st = ⟨220, [(0, .slice (some ⟨bb, 0, none⟩) no co), (1, .int .i64 ta), (4, chronV), (10, .int .i64 ti), (11, .int .i64 tj)], H, [.row (.slice (some ⟨bb, 0, none⟩) no co) 3 css], [], []⟩) ?_ ?_
  · exact Shift.to ⟨_, 0, v.length, _, _, rfl, by omega, by omega, by omega, by omega, fun q y hq => absurd hq (by omega), fun q y hq hy => absurd (List.getElem?_eq_some_iff.1 hy).1 (by omega), rfl⟩ ⟨rfl, rfl, rfl, ⟨rfl, rfl, rfl, rfl, rfl, trivial⟩, Own.subi [0] (by decide) rfl rfl⟩
  · rintro m st ⟨i, j, ti, tj, rfl, hij, hj, hti, htj, h1, h2, rfl⟩
    by_cases hlt : i < j
    · obtain ⟨md, hh⟩ : ∃ md : Nat, md = (i + j) / 2 := ⟨_, rfl⟩
      have hI : (ti + tj) / 2 = ((p + 1 + md : Nat) : Int) := by omega
      obtain ⟨y, hy⟩ : ∃ y, v[md]? = some y := ⟨v[md], List.getElem?_eq_getElem (by omega)⟩
      have gy := gv md y hy
      repeat' (first | (refine A_drawL WideF.wide (.q 0 (.q 1 (.q 2 (.q 3 (.q 4 (.q 5 (.q 6 (.q 7 (.q 8 (.e 9 (.q 10 (.done [])))))))))))) [] (by decide +kernel) ?_) | (refine O_ev WideF.wide rfl (Ev_conv (k2 := .u64) rfl (wu64 (by omega))) rfl rfl ?_) | (refine O_ev WideF.wide rfl (Ev_half rfl rfl) rfl rfl ?_; rw [hI]) | (refine D_ev rfl (Ev_loadR (q := 0) rfl rfl gy (by omega) rfl) rfl rfl ?_) | (refine D_ev rfl (Ev_loadR (q := 0) rfl rfl ga (by omega) rfl) rfl rfl ?_) | (refine E_ef rfl (Ef_callvp WideF.wide (hch _ _) rfl ⟨rfl, rfl, trivial⟩ rfl ?_); refine ⟨Grow.same rfl rfl, ?_⟩) | refine O_nil ?_ | refine A_seq ?_ | refine A_region ?_ | refine A_skip ?_ | refine A_block ?_ | (show drJ _ _ _ _ _ _ _ (.q _ _) _; refine D_q rfl ?_) | (show drJ _ _ _ _ _ _ _ (.e _ _) _; refine D_e rfl ?_) | (show drJ _ _ _ _ _ _ _ (.done _) _; refine D_done ?_; simp only [List.cons_append, List.nil_append]) | (show drQ _ _ _ _ _ _; first | refine D_ev rfl (Ev_pure rfl) rfl rfl ?_ | (show drQ _ _ _ ⟨_, .indexAddr _ _ _, _, _, _, _⟩ _ _; refine D_ev rfl (Ev_indexAddr rfl rfl (by omega) (by omega)) rfl rfl ?_)) | (show opsA _ _ _ _ _ _ _; first | refine O_ev WideF.wide rfl (Ev_pure rfl) rfl rfl ?_ | (show opsA _ _ _ _ (⟨_, .binOp _ _ _ _ _, _, _, _, _⟩ :: _) _ _; refine O_ev WideF.wide rfl (Ev_add rfl rfl (wi64 (by omega))) rfl rfl ?_) | (show opsA _ _ _ _ (⟨_, .convert _ _ _, _, _, _, _⟩ :: _) _ _; refine O_ev WideF.wide rfl (Ev_conv (k2 := .i64) rfl (wi64 (by omega))) rfl rfl ?_)) | (show wpA _ _ _ (.cond _ _ _) _ _ _ _; (refine A_if rfl (fun h => ?_) (fun h => ?_) <;> try (exfalso; omega))))
      all_goals first
        | (exfalso; omega)
        | (have hc : cmpR y x < 0 := by assumption
           refine Shift.to ⟨_, ?_, md + 1, j, _, _, rfl, by omega, by omega, ?_, htj, ?_, h2, rfl⟩ ⟨rfl, rfl, rfl, ⟨rfl, rfl, rfl, rfl, rfl, trivial⟩, Own.subi [0] (by decide) rfl rfl⟩
           · omega
           · omega
           · intro q z hq hz
             have h3 := srt_get hv (by omega : q ≤ md) hz hy
             have h4 : ltR y x := hc
             rw [not_ltR] at h3
             rw [ltR_iff] at h4 ⊢
             omega)
        | (have hc : ¬ cmpR y x < 0 := by assumption
           refine Shift.to ⟨_, ?_, i, md, _, _, rfl, by omega, by omega, hti, ?_, h1, ?_, rfl⟩ ⟨rfl, rfl, rfl, ⟨rfl, rfl, rfl, rfl, rfl, trivial⟩, Own.subi [0] (by decide) rfl rfl⟩
           · omega
           · omega
           · intro q z hq hz
             have h3 := srt_get hv hq hy hz
             have h4 : ¬ ltR y x := hc
             rw [not_ltR] at h3 h4 ⊢
             omega)
    · have hji : j = i := by omega
      subst hji
      have hfin := left_srt hv h1 h2
      repeat' (first | refine O_nil ?_ | refine A_seq ?_ | refine A_region ?_ | refine A_block ?_ | (show opsA _ _ _ _ _ _ _; refine O_ev WideF.wide rfl (Ev_pure rfl) rfl rfl ?_) | (show wpA _ _ _ (.exit _) _ _ _ _; refine A_exit rfl ?_) | (show wpA _ _ _ (.cond _ _ _) _ _ _ _; (refine A_if rfl (fun h => ?_) (fun h => ?_) <;> try (exfalso; omega))))
      all_goals try (exfalso; omega)
      refine A_loopu (fun m st => ∃ (r : Nat) (tk : Int) (css : List (List Value)), m = j - r ∧ r ≤ j ∧ tk = (p : Int) + r ∧ css = (pre ++ (v.take r ++ x :: v.drop r) ++ post).map rrow ∧ css.length = no ∧ st = ⟨220, [(0, .slice (some ⟨bb, 0, none⟩) no co), (10, .int .i64 ti), (13, .int .i64 tk)], H, [.row (.slice (some ⟨bb, 0, none⟩) no co) 3 css], [], []⟩) ?_ ?_
      · exact Shift.to ⟨_, 0, _, _, rfl, by omega, by omega, by rw [hcs]; simp, hcl, rfl⟩ ⟨rfl, rfl, rfl, ⟨rfl, rfl, rfl, trivial⟩, Own.subi [0] (by decide) rfl rfl⟩
      · rintro m st ⟨r, tk, css, rfl, hr, htk, hcs, hcl, rfl⟩
        by_cases hlt2 : r < j
        · obtain ⟨y, hy⟩ : ∃ y, v[r]? = some y := ⟨v[r], List.getElem?_eq_getElem (by omega)⟩
          have hvl : (v.take r).length = r := by rw [List.length_take]; omega
          have hcs2 : css = (pre ++ v.take r).map rrow ++ rrow x :: [] ++ rrow y :: (v.drop (r + 1) ++ post).map rrow := by rw [hcs, drop_get hy]; simp
          obtain ⟨g1, g2, g3, g4⟩ := swap_at (p := p + r) (q := p + r + 1) hcs2 (by rw [List.length_map, List.length_append]; omega) rfl
          have hcs3 : (pre ++ v.take r).map rrow ++ rrow y :: [] ++ rrow x :: (v.drop (r + 1) ++ post).map rrow = (pre ++ (v.take (r + 1) ++ x :: v.drop (r + 1)) ++ post).map rrow := by rw [take_get hy]; simp
          have hox : ∀ u ∈ rrow x, u.oneCell' = true := fun u hu => rrow_one [x] (rrow x) (by simp) u hu
          have hoy : ∀ u ∈ rrow y, u.oneCell' = true := fun u hu => rrow_one [y] (rrow y) (by simp) u hu
          repeat' (first | (refine A_drawi WideF.wide (.q 0 (.q 1 (.p 2 (.p 3 (.p 4 (.q 5 (.q 6 (.q 7 (.q 8 (.q 9 (.q 10 (.q 11 (.q 12 (.q 13 (.r (.q 14 (.e 15 (.q 16 (.e 17 (.done [])))))))))))))))))))) [14, 15, 16, 17] [] [0] (by decide +kernel) (by decide) rfl ?_; simp only [Own.picks, Own.rget, List.cons_append, List.nil_append, List.append_nil]) | (refine D_ev rfl (Ev_loadR (q := 0) rfl rfl g2 (by omega) rfl) rfl rfl ?_) | (refine D_ev rfl (Ev_loadR (q := 0) rfl rfl g1 (by omega) rfl) rfl rfl ?_) | (refine E_ef rfl (Ef_storeR WideF.wide (dd := 0) (cs := rrow x) (cs' := rrow y) rfl rfl g1 (by omega) rfl hoy (Nat.le_of_ble_eq_true rfl) rfl ?_); refine ⟨Grow.same rfl rfl, ?_⟩) | (refine E_ef rfl (Ef_storeR WideF.wide (dd := 0) (cs := rrow y) (cs' := rrow x) rfl rfl g3 (by omega) rfl hox (Nat.le_of_ble_eq_true rfl) rfl ?_); refine ⟨Grow.same rfl rfl, ?_⟩) | refine O_nil ?_ | refine A_seq ?_ | refine A_region ?_ | refine A_skip ?_ | refine A_block ?_ | (show drJ _ _ _ _ _ _ _ (.q _ _) _; refine D_q rfl ?_) | (show drJ _ _ _ _ _ _ _ (.e _ _) _; refine D_e rfl ?_) | (show drJ _ _ _ _ _ _ _ (.r _) _; refine D_r ?_; simp only [List.cons_append, List.nil_append]) | (show drJ _ _ _ _ _ _ _ (.done _) _; refine D_done ?_; simp only [List.cons_append, List.nil_append]) | (show drQ _ _ _ _ _ _; first | refine D_ev rfl (Ev_pure rfl) rfl rfl ?_ | (show drQ _ _ _ ⟨_, .indexAddr _ _ _, _, _, _, _⟩ _ _; refine D_ev rfl (Ev_indexAddr rfl rfl (by omega) (by omega)) rfl rfl ?_) | (show drQ _ _ _ ⟨_, .binOp _ _ _ _ _, _, _, _, _⟩ _ _; refine D_ev rfl (Ev_add rfl rfl (wi64 (by omega))) rfl rfl ?_)) | (show drJ _ _ _ _ _ _ _ (.p _ _) _; refine D_p rfl ?_) | (show drP _ _ _ _ _ _; first | refine D_pv rfl (Ev_pure rfl) rfl rfl ?_ | (show drP _ _ _ ⟨_, .binOp _ _ _ _ _, _, _, _, _⟩ _ _; refine D_pv rfl (Ev_add rfl rfl (wi64 (by omega))) rfl rfl ?_)) | (show opsA _ _ _ _ _ _ _; first | refine O_ev WideF.wide rfl (Ev_pure rfl) rfl rfl ?_ | (show opsA _ _ _ _ (⟨_, .binOp _ _ _ _ _, _, _, _, _⟩ :: _) _ _; first | refine O_ev WideF.wide rfl (Ev_add rfl rfl (wi64 (by omega))) rfl rfl ?_ | refine O_ev WideF.wide rfl (Ev_sub rfl rfl (wi64 (by omega))) rfl rfl ?_)) | (show wpA _ _ _ (.cond _ _ _) _ _ _ _; (refine A_if rfl (fun h => ?_) (fun h => ?_) <;> try (exfalso; omega))))
          all_goals first
            | (exfalso; omega)
            | (refine Shift.to ⟨_, ?_, r + 1, _, _, rfl, by omega, ?_, g4.trans hcs3, ?_, rfl⟩ ⟨rfl, rfl, rfl, ⟨rfl, rfl, rfl, trivial⟩, Own.subi [0] (by decide) rfl rfl⟩
               · omega
               · omega
               · simp [hcl])
        · have hrj : r = j := by omega
          subst hrj
          rw [hfin] at hcs
          subst hcs
          repeat' (first | refine O_nil ?_ | refine A_seq ?_ | refine A_region ?_ | refine A_ret ?_ | (show opsA _ _ _ _ _ _ _; first | refine O_ev WideF.wide rfl (Ev_pure rfl) rfl rfl ?_ | (show opsA _ _ _ _ (⟨_, .binOp _ _ _ _ _, _, _, _, _⟩ :: _) _ _; refine O_ev WideF.wide rfl (Ev_sub rfl rfl (wi64 (by omega))) rfl rfl ?_)) | (show wpA _ _ _ (.exit _) _ _ _ _; refine A_exit rfl ?_) | (show wpA _ _ _ (.cond _ _ _) _ _ _ _; (refine A_if rfl (fun h => ?_) (fun h => ?_) <;> try (exfalso; omega))))
          all_goals first
            | (exfalso; omega)
            | exact End_m (Ret0 rfl) ⟨rfl, rfl, rfl⟩
set_option maxRecDepth 100000 in
set_option maxHeartbeats 2000000 in
theorem sm_right {H : Hp} {bb no co : Nat} {pre u post : List Rev} {y : Rev} {ta tm tb : Int} (hu0 : 1 < u.length) (hta : ta = (pre.length : Int)) (htm : tm = (pre.length : Int) + u.length) (htb : tb = (pre.length : Int) + u.length + 1) (hno : pre.length + u.length + 1 + post.length = no) (hm : no < 1048576) (hu : Srt u) :
    Fn Try.prog 103 [.slice (some ⟨bb, 0, none⟩) no co, .int .i64 ta, .int .i64 tm, .int .i64 tb, chronV] H [.row (.slice (some ⟨bb, 0, none⟩) no co) 3 ((pre ++ u ++ [y] ++ post).map rrow)] fun w H' I' => w = .tuple #[] ∧ H' = H ∧ I' = [.row (.slice (some ⟨bb, 0, none⟩) no co) 3 ((pre ++ isort (u ++ [y]) ++ post).map rrow)] := by
  have hch := fun Hx x => Chron1_fn (H := Hx) (x := y) (y := x)
  obtain ⟨p, hp⟩ : ∃ p, p = pre.length := ⟨_, rfl⟩
  rw [← hp] at hta htm htb hno
  obtain ⟨css, hcs⟩ : ∃ css, css = (pre ++ u ++ [y] ++ post).map rrow := ⟨_, rfl⟩
  have hcl : css.length = no := by rw [hcs]; simp; omega
  have ga : css[p + u.length]? = some (rrow y) := by have := at_app (A := pre ++ u) (B := [y]) (k := 0) (m := p + u.length) (by simp; omega) rfl post; rw [hcs]; exact this
  have gu : ∀ q x, u[q]? = some x → css[p + q]? = some (rrow x) := fun q x hx => by have := at_app (A := pre) (B := u) (m := p) hp.symm hx ([y] ++ post); rw [hcs]; simpa using this
  rw [← hcs]
  refine Fn_of _ _ Try.func103 rfl Try.ntmps103 rfl fun c => ?_
  repeat' (first | refine O_nil ?_ | refine A_seq ?_ | refine A_region ?_ | refine A_skip ?_ | refine A_block ?_ | (show opsA _ _ _ _ _ _ _; first | refine O_ev WideF.wide rfl (Ev_pure rfl) rfl rfl ?_ | (show opsA _ _ _ _ (⟨_, .binOp _ _ _ _ _, _, _, _, _⟩ :: _) _ _; refine O_ev WideF.wide rfl (Ev_sub rfl rfl (wi64 (by omega))) rfl rfl ?_)) | (show wpA _ _ _ (.cond _ _ _) _ _ _ _; (refine A_if rfl (fun h => ?_) (fun h => ?_) <;> try (exfalso; omega))))
  all_goals try (exfalso; omega)
  refine A_loopu (fun m st => ∃ (i j : Nat) (ti tj : Int), m = j - i ∧ i ≤ j ∧ j ≤ u.length ∧ ti = (p : Int) + i ∧ tj = (p : Int) + j ∧ (∀ q x, q < i → u[q]? = some x → ¬ ltR y x) ∧ (∀ q x, j ≤ q → u[q]? = some x → ltR y x) ∧ st = ⟨220, [(0, .slice (some ⟨bb, 0, none⟩) no co), (2, .int .i64 tm), (4, chronV), (14, .int .i64 ti), (15, .int .i64 tj)], H, [.row (.slice (some ⟨bb, 0, none⟩) no co) 3 css], [], []⟩) ?_ ?_
  · exact Shift.to ⟨_, 0, u.length, _, _, rfl, by omega, by omega, by omega, by omega, fun q y hq => absurd hq (by omega), fun q y hq hy => absurd (List.getElem?_eq_some_iff.1 hy).1 (by omega), rfl⟩ ⟨rfl, rfl, rfl, ⟨rfl, rfl, rfl, rfl, rfl, trivial⟩, Own.subi [0] (by decide) rfl rfl⟩
  · rintro m st ⟨i, j, ti, tj, rfl, hij, hj, hti, htj, h1, h2, rfl⟩
    by_cases hlt : i < j
    · obtain ⟨md, hh⟩ : ∃ md : Nat, md = (i + j) / 2 := ⟨_, rfl⟩
      have hI : (ti + tj) / 2 = ((p + md : Nat) : Int) := by omega
      obtain ⟨x, hx⟩ : ∃ x, u[md]? = some x := ⟨u[md], List.getElem?_eq_getElem (by omega)⟩
      have gx := gu md x hx
      repeat' (first | (refine A_drawL WideF.wide (.q 0 (.q 1 (.q 2 (.q 3 (.q 4 (.q 5 (.q 6 (.q 7 (.q 8 (.e 9 (.q 10 (.q 11 (.done []))))))))))))) [] (by decide +kernel) ?_) | (refine O_ev WideF.wide rfl (Ev_conv (k2 := .u64) rfl (wu64 (by omega))) rfl rfl ?_) | (refine O_ev WideF.wide rfl (Ev_half rfl rfl) rfl rfl ?_; rw [hI]) | (refine D_ev rfl (Ev_loadR (q := 0) rfl rfl gx (by omega) rfl) rfl rfl ?_) | (refine D_ev rfl (Ev_loadR (q := 0) rfl rfl ga (by omega) rfl) rfl rfl ?_) | (refine E_ef rfl (Ef_callvp WideF.wide (hch _ _) rfl ⟨rfl, rfl, trivial⟩ rfl ?_); refine ⟨Grow.same rfl rfl, ?_⟩) | refine O_nil ?_ | refine A_seq ?_ | refine A_region ?_ | refine A_skip ?_ | refine A_block ?_ | (show drJ _ _ _ _ _ _ _ (.q _ _) _; refine D_q rfl ?_) | (show drJ _ _ _ _ _ _ _ (.e _ _) _; refine D_e rfl ?_) | (show drJ _ _ _ _ _ _ _ (.done _) _; refine D_done ?_; simp only [List.cons_append, List.nil_append]) | (show drQ _ _ _ _ _ _; first | refine D_ev rfl (Ev_pure rfl) rfl rfl ?_ | (show drQ _ _ _ ⟨_, .indexAddr _ _ _, _, _, _, _⟩ _ _; refine D_ev rfl (Ev_indexAddr rfl rfl (by omega) (by omega)) rfl rfl ?_) | (show drQ _ _ _ ⟨_, .unOp _ _ _, _, _, _, _⟩ _ _; refine D_ev rfl (Ev_not rfl) rfl rfl ?_)) | (show opsA _ _ _ _ _ _ _; first | refine O_ev WideF.wide rfl (Ev_pure rfl) rfl rfl ?_ | (show opsA _ _ _ _ (⟨_, .binOp _ _ _ _ _, _, _, _, _⟩ :: _) _ _; refine O_ev WideF.wide rfl (Ev_add rfl rfl (wi64 (by omega))) rfl rfl ?_) | (show opsA _ _ _ _ (⟨_, .convert _ _ _, _, _, _, _⟩ :: _) _ _; refine O_ev WideF.wide rfl (Ev_conv (k2 := .i64) rfl (wi64 (by omega))) rfl rfl ?_)) | (show wpA _ _ _ (.cond _ _ _) _ _ _ _; (refine A_if rfl (fun h => ?_) (fun h => ?_) <;> try (exfalso; omega))))
      all_goals first
        | (exfalso; omega)
        | (have hc : ¬ cmpR y x < 0 := by assumption
           refine Shift.to ⟨_, ?_, md + 1, j, _, _, rfl, by omega, by omega, ?_, htj, ?_, h2, rfl⟩ ⟨rfl, rfl, rfl, ⟨rfl, rfl, rfl, rfl, rfl, trivial⟩, Own.subi [0] (by decide) rfl rfl⟩
           · omega
           · omega
           · intro q z hq hz
             have h3 := srt_get hu (by omega : q ≤ md) hz hx
             have h4 : ¬ ltR y x := hc
             rw [not_ltR] at h3 h4 ⊢
             omega)
        | (have hc : cmpR y x < 0 := Decidable.not_not.1 (by assumption)
           refine Shift.to ⟨_, ?_, i, md, _, _, rfl, by omega, by omega, hti, ?_, h1, ?_, rfl⟩ ⟨rfl, rfl, rfl, ⟨rfl, rfl, rfl, rfl, rfl, trivial⟩, Own.subi [0] (by decide) rfl rfl⟩
           · omega
           · omega
           · intro q z hq hz
             have h3 := srt_get hu hq hx hz
             have h4 : ltR y x := hc
             rw [not_ltR] at h3
             rw [ltR_iff] at h4 ⊢
             omega)
    · have hji : j = i := by omega
      subst hji
      have hfin := right_srt hu h1 h2
      repeat' (first | refine O_nil ?_ | refine A_seq ?_ | refine A_region ?_ | refine A_block ?_ | (show opsA _ _ _ _ _ _ _; refine O_ev WideF.wide rfl (Ev_pure rfl) rfl rfl ?_) | (show wpA _ _ _ (.exit _) _ _ _ _; refine A_exit rfl ?_) | (show wpA _ _ _ (.cond _ _ _) _ _ _ _; (refine A_if rfl (fun h => ?_) (fun h => ?_) <;> try (exfalso; omega))))
      all_goals try (exfalso; omega)
      refine A_loopu (fun m st => ∃ (r : Nat) (tk : Int) (css : List (List Value)), m = r ∧ j ≤ r ∧ r ≤ u.length ∧ tk = (p : Int) + r ∧ css = (pre ++ (u.take r ++ y :: u.drop r) ++ post).map rrow ∧ css.length = no ∧ st = ⟨220, [(0, .slice (some ⟨bb, 0, none⟩) no co), (14, .int .i64 ti), (17, .int .i64 tk)], H, [.row (.slice (some ⟨bb, 0, none⟩) no co) 3 css], [], []⟩) ?_ ?_
      · exact Shift.to ⟨_, u.length, _, _, rfl, by omega, by omega, by omega, by rw [hcs]; simp, hcl, rfl⟩ ⟨rfl, rfl, rfl, ⟨rfl, rfl, rfl, trivial⟩, Own.subi [0] (by decide) rfl rfl⟩
      · rintro m st ⟨r, tk, css, rfl, hjr, hr, htk, hcs, hcl, rfl⟩
        by_cases hlt2 : j < m
        · obtain ⟨r, rfl⟩ : ∃ r, m = r + 1 := ⟨m - 1, by omega⟩
          obtain ⟨x, hx⟩ : ∃ x, u[r]? = some x := ⟨u[r], List.getElem?_eq_getElem (by omega)⟩
          have hul : (u.take r).length = r := by rw [List.length_take]; omega
          have hcs2 : css = (pre ++ u.take r).map rrow ++ rrow x :: rrow y :: (u.drop (r + 1) ++ post).map rrow := by rw [hcs, take_get hx]; simp
          obtain ⟨g2, g1, g3, g4⟩ := two_at (A := (pre ++ u.take r).map rrow) (B := (u.drop (r + 1) ++ post).map rrow) (u := rrow x) (v := rrow y) (m := p + r) (by rw [List.length_map, List.length_append]; omega)
          rw [← hcs2] at g1 g2 g3 g4
          have hcs3 : (pre ++ u.take r).map rrow ++ rrow y :: rrow x :: (u.drop (r + 1) ++ post).map rrow = (pre ++ (u.take r ++ y :: u.drop r) ++ post).map rrow := by rw [drop_get hx]; simp
          have hox : ∀ u ∈ rrow x, u.oneCell' = true := fun u hu => rrow_one [x] (rrow x) (by simp) u hu
          have hoy : ∀ u ∈ rrow y, u.oneCell' = true := fun u hu => rrow_one [y] (rrow y) (by simp) u hu
          repeat' (first | (refine A_drawi WideF.wide (.q 0 (.q 1 (.p 2 (.p 3 (.p 4 (.q 5 (.q 6 (.q 7 (.q 8 (.q 9 (.q 10 (.q 11 (.q 12 (.q 13 (.r (.q 14 (.e 15 (.q 16 (.e 17 (.done [])))))))))))))))))))) [14, 15, 16, 17] [] [0] (by decide +kernel) (by decide) rfl ?_; simp only [Own.picks, Own.rget, List.cons_append, List.nil_append, List.append_nil]) | (refine D_ev rfl (Ev_loadR (q := 0) rfl rfl g2 (by omega) rfl) rfl rfl ?_) | (refine D_ev rfl (Ev_loadR (q := 0) rfl rfl g1 (by omega) rfl) rfl rfl ?_) | (refine E_ef rfl (Ef_storeR WideF.wide (dd := 0) (cs := rrow y) (cs' := rrow x) rfl rfl g1 (by omega) rfl hox (Nat.le_of_ble_eq_true rfl) rfl ?_); refine ⟨Grow.same rfl rfl, ?_⟩) | (refine E_ef rfl (Ef_storeR WideF.wide (dd := 0) (cs := rrow x) (cs' := rrow y) rfl rfl g3 (by omega) rfl hoy (Nat.le_of_ble_eq_true rfl) rfl ?_); refine ⟨Grow.same rfl rfl, ?_⟩) | refine O_nil ?_ | refine A_seq ?_ | refine A_region ?_ | refine A_skip ?_ | refine A_block ?_ | (show drJ _ _ _ _ _ _ _ (.q _ _) _; refine D_q rfl ?_) | (show drJ _ _ _ _ _ _ _ (.e _ _) _; refine D_e rfl ?_) | (show drJ _ _ _ _ _ _ _ (.r _) _; refine D_r ?_; simp only [List.cons_append, List.nil_append]) | (show drJ _ _ _ _ _ _ _ (.done _) _; refine D_done ?_; simp only [List.cons_append, List.nil_append]) | (show drQ _ _ _ _ _ _; first | refine D_ev rfl (Ev_pure rfl) rfl rfl ?_ | (show drQ _ _ _ ⟨_, .indexAddr _ _ _, _, _, _, _⟩ _ _; refine D_ev rfl (Ev_indexAddr rfl rfl (by omega) (by omega)) rfl rfl ?_) | (show drQ _ _ _ ⟨_, .binOp _ _ _ _ _, _, _, _, _⟩ _ _; refine D_ev rfl (Ev_sub rfl rfl (wi64 (by omega))) rfl rfl ?_)) | (show drJ _ _ _ _ _ _ _ (.p _ _) _; refine D_p rfl ?_) | (show drP _ _ _ _ _ _; first | refine D_pv rfl (Ev_pure rfl) rfl rfl ?_ | (show drP _ _ _ ⟨_, .binOp _ _ _ _ _, _, _, _, _⟩ _ _; refine D_pv rfl (Ev_sub rfl rfl (wi64 (by omega))) rfl rfl ?_)) | (show opsA _ _ _ _ _ _ _; first | refine O_ev WideF.wide rfl (Ev_pure rfl) rfl rfl ?_ | (show opsA _ _ _ _ (⟨_, .binOp _ _ _ _ _, _, _, _, _⟩ :: _) _ _; refine O_ev WideF.wide rfl (Ev_sub rfl rfl (wi64 (by omega))) rfl rfl ?_)) | (show wpA _ _ _ (.cond _ _ _) _ _ _ _; (refine A_if rfl (fun h => ?_) (fun h => ?_) <;> try (exfalso; omega))))
          all_goals first
            | (exfalso; omega)
            | (refine Shift.to ⟨_, ?_, r, _, _, rfl, by omega, by omega, ?_, g4.trans hcs3, ?_, rfl⟩ ⟨rfl, rfl, rfl, ⟨rfl, rfl, rfl, trivial⟩, Own.subi [0] (by decide) rfl rfl⟩
               · omega
               · omega
               · simp [hcl])
        · have hrj : m = j := by omega
          subst hrj
          rw [hfin] at hcs
          subst hcs
          repeat' (first | refine O_nil ?_ | refine A_seq ?_ | refine A_region ?_ | refine A_ret ?_ | (show opsA _ _ _ _ _ _ _; refine O_ev WideF.wide rfl (Ev_pure rfl) rfl rfl ?_) | (show wpA _ _ _ (.exit _) _ _ _ _; refine A_exit rfl ?_) | (show wpA _ _ _ (.cond _ _ _) _ _ _ _; (refine A_if rfl (fun h => ?_) (fun h => ?_) <;> try (exfalso; omega))))
          all_goals first
            | (exfalso; omega)
            | exact End_m (Ret0 rfl) ⟨rfl, rfl, rfl⟩
end Go.Proofs.Ytlcoebomgaodgaa
