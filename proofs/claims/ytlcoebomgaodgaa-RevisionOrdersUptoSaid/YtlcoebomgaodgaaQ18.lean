/-
  swapRangeCmpFunc, rotateCmpFunc at revisions.
-/
import Derived.Test.YtlcoebomgaodgaaQ17
namespace Go.Proofs.Ytlcoebomgaodgaa
open Go
set_option linter.unusedVariables false
set_option linter.unusedSimpArgs false
theorem swap_at {α : Type} {P Q R L : List α} {u v : α} {p q : Nat} (hL : L = P ++ u :: Q ++ v :: R) (hp : P.length = p) (hq : p + 1 + Q.length = q) : L[p]? = some u ∧ L[q]? = some v ∧ (L.set p v)[q]? = some v ∧ (L.set p v).set q u = P ++ v :: Q ++ u :: R := by
  subst hL hp hq
  have e1 : ∀ (a b : α), P ++ a :: Q ++ b :: R = (P ++ a :: Q) ++ b :: R := fun _ _ => rfl
  have e2 : ∀ (a : α), (P ++ a :: Q).length = P.length + 1 + Q.length := fun a => by simp; omega
  have e3 : (P ++ u :: Q ++ v :: R).set P.length v = P ++ v :: Q ++ v :: R := by rw [List.append_assoc, List.set_append_right _ _ (by omega)]; simp
  refine ⟨by simp, ?_, ?_, ?_⟩
  · rw [List.getElem?_append_right (by rw [e2]; omega), e2]; simp
  · rw [e3, List.getElem?_append_right (by rw [e2]; omega), e2]; simp
  · rw [e3, List.set_append_right _ _ (by rw [e2]; omega), e2]; simp
attribute [local irreducible] wpA opsA drJ drQ drE Ef Ev Shift Fn
set_option maxRecDepth 100000 in
set_option maxHeartbeats 2000000 in
theorem swap_fn {H : Hp} {bb no co a b n : Nat} {ta tb tn : Int} {pre A mid B post : List Rev} (hta : ta = (a : Int)) (htb : tb = (b : Int)) (htn : tn = (n : Int)) (ha : pre.length = a) (hA : A.length = n) (hb : a + n + mid.length = b) (hB : B.length = n) (hno : b + n + post.length = no) (hm : no < 1048576) :
    Fn Try.prog 119 [.slice (some ⟨bb, 0, none⟩) no co, .int .i64 ta, .int .i64 tb, .int .i64 tn, chronV] H [.row (.slice (some ⟨bb, 0, none⟩) no co) 3 ((pre ++ A ++ mid ++ B ++ post).map rrow)] fun v H' I' => v = .tuple #[] ∧ H' = H ∧ I' = [.row (.slice (some ⟨bb, 0, none⟩) no co) 3 ((pre ++ B ++ mid ++ A ++ post).map rrow)] := by
  refine Fn_of _ _ Try.func119 rfl Try.ntmps119 rfl fun c => ?_
  repeat' (first | refine O_nil ?_ | refine A_seq ?_ | refine A_region ?_ | refine A_block ?_ | (show opsA _ _ _ _ _ _ _; refine O_ev WideF.wide rfl (Ev_pure rfl) rfl rfl ?_))
  refine A_loopu (fun m st => ∃ (i : Nat) (t : Int) (css : List (List Value)), m = n - i ∧ i ≤ n ∧ t = (i : Int) ∧ css = (pre ++ (B.take i ++ A.drop i) ++ mid ++ (A.take i ++ B.drop i) ++ post).map rrow ∧ st = ⟨38, [(0, .slice (some ⟨bb, 0, none⟩) no co), (1, .int .i64 ta), (2, .int .i64 tb), (3, .int .i64 tn), (10, .int .i64 t)], H, [.row (.slice (some ⟨bb, 0, none⟩) no co) 3 css], [], []⟩) ?_ ?_
  · exact Shift.to ⟨_, 0, _, _, rfl, by omega, rfl, by simp, rfl⟩ ⟨rfl, rfl, rfl, ⟨rfl, rfl, rfl, rfl, rfl, trivial⟩, Own.subi [0] (by decide) rfl rfl⟩
  · rintro m st ⟨i, t, css, rfl, hi, ht, hcs, rfl⟩
    by_cases hlt : i < n
    · obtain ⟨x, hx⟩ : ∃ x, A[i]? = some x := ⟨A[i], List.getElem?_eq_getElem (by omega)⟩
      obtain ⟨y, hy⟩ : ∃ y, B[i]? = some y := ⟨B[i], List.getElem?_eq_getElem (by omega)⟩
      have hBl : (B.take i).length = i := by rw [List.length_take]; omega
      have hAl : (A.take i).length = i := by rw [List.length_take]; omega
      have hAd : (A.drop (i + 1)).length = n - (i + 1) := by rw [List.length_drop]; omega
      have hcs2 : css = (pre ++ B.take i).map rrow ++ rrow x :: (A.drop (i + 1) ++ mid ++ A.take i).map rrow ++ rrow y :: (B.drop (i + 1) ++ post).map rrow := by rw [hcs, drop_get hx, drop_get hy]; simp
      obtain ⟨g1, g2, g3, g4⟩ := swap_at (p := a + i) (q := b + i) hcs2 (by rw [List.length_map, List.length_append]; omega) (by rw [List.length_map, List.length_append, List.length_append]; omega)
      have hcs3 : (pre ++ B.take i).map rrow ++ rrow y :: (A.drop (i + 1) ++ mid ++ A.take i).map rrow ++ rrow x :: (B.drop (i + 1) ++ post).map rrow = (pre ++ (B.take (i + 1) ++ A.drop (i + 1)) ++ mid ++ (A.take (i + 1) ++ B.drop (i + 1)) ++ post).map rrow := by rw [take_get hx, take_get hy]; simp
      have hox : ∀ u ∈ rrow x, u.oneCell' = true := fun u hu => rrow_one [x] (rrow x) (by simp) u hu
      have hoy : ∀ u ∈ rrow y, u.oneCell' = true := fun u hu => rrow_one [y] (rrow y) (by simp) u hu
      repeat' (first | (refine A_drawi WideF.wide (.q 0 (.q 1 (.q 2 (.q 3 (.p 4 (.p 5 (.p 6 (.p 7 (.q 8 (.q 9 (.q 10 (.q 11 (.q 12 (.q 13 (.q 14 (.q 15 (.q 16 (.q 17 (.q 18 (.q 19 (.r (.q 20 (.e 21 (.q 22 (.e 23 (.done [])))))))))))))))))))))))))) [20, 21, 22, 23] [] [0] (by decide +kernel) (by decide) rfl ?_; simp only [Own.picks, Own.rget, List.cons_append, List.nil_append, List.append_nil]) | (refine D_ev rfl (Ev_loadR (q := 0) rfl rfl g2 (by omega) rfl) rfl rfl ?_) | (refine D_ev rfl (Ev_loadR (q := 0) rfl rfl g1 (by omega) rfl) rfl rfl ?_) | (refine E_ef rfl (Ef_storeR WideF.wide (dd := 0) (cs := rrow x) (cs' := rrow y) rfl rfl g1 (by omega) rfl hoy (Nat.le_of_ble_eq_true rfl) rfl ?_); refine ⟨Grow.same rfl rfl, ?_⟩) | (refine E_ef rfl (Ef_storeR WideF.wide (dd := 0) (cs := rrow y) (cs' := rrow x) rfl rfl g3 (by omega) rfl hox (Nat.le_of_ble_eq_true rfl) rfl ?_); refine ⟨Grow.same rfl rfl, ?_⟩) | refine O_nil ?_ | refine A_seq ?_ | refine A_region ?_ | refine A_skip ?_ | refine A_block ?_ | (show drJ _ _ _ _ _ _ _ (.q _ _) _; refine D_q rfl ?_) | (show drJ _ _ _ _ _ _ _ (.e _ _) _; refine D_e rfl ?_) | (show drJ _ _ _ _ _ _ _ (.r _) _; refine D_r ?_; simp only [List.cons_append, List.nil_append]) | (show drJ _ _ _ _ _ _ _ (.done _) _; refine D_done ?_; simp only [List.cons_append, List.nil_append]) | (show drQ _ _ _ _ _ _; first | refine D_ev rfl (Ev_pure rfl) rfl rfl ?_ | (show drQ _ _ _ ⟨_, .indexAddr _ _ _, _, _, _, _⟩ _ _; refine D_ev rfl (Ev_indexAddr rfl rfl (by omega) (by omega)) rfl rfl ?_) | (show drQ _ _ _ ⟨_, .binOp _ _ _ _ _, _, _, _, _⟩ _ _; refine D_ev rfl (Ev_add rfl rfl (wi64 (by omega))) rfl rfl ?_)) | (show drJ _ _ _ _ _ _ _ (.p _ _) _; refine D_p rfl ?_) | (show drP _ _ _ _ _ _; first | refine D_pv rfl (Ev_pure rfl) rfl rfl ?_ | (show drP _ _ _ ⟨_, .binOp _ _ _ _ _, _, _, _, _⟩ _ _; refine D_pv rfl (Ev_add rfl rfl (wi64 (by omega))) rfl rfl ?_)) | (show opsA _ _ _ _ _ _ _; first | refine O_ev WideF.wide rfl (Ev_pure rfl) rfl rfl ?_ | (show opsA _ _ _ _ (⟨_, .binOp _ _ _ _ _, _, _, _, _⟩ :: _) _ _; refine O_ev WideF.wide rfl (Ev_add rfl rfl (wi64 (by omega))) rfl rfl ?_)) | (show wpA _ _ _ (.cond _ _ _) _ _ _ _; (refine A_if rfl (fun h => ?_) (fun h => ?_) <;> try (exfalso; omega))))
      all_goals first
        | (exfalso; omega)
        | (refine Shift.to ⟨_, ?_, i + 1, _, _, rfl, by omega, ?_, g4.trans hcs3, rfl⟩ ⟨rfl, rfl, rfl, ⟨rfl, rfl, rfl, rfl, rfl, trivial⟩, Own.subi [0] (by decide) rfl rfl⟩
           · omega
           · omega)
    · have hin : i = n := by omega
      subst hin
      rw [List.take_of_length_le (by omega), List.drop_eq_nil_of_le (by omega), List.take_of_length_le (by omega), List.drop_eq_nil_of_le (by omega), List.append_nil, List.append_nil] at hcs
      subst hcs
      repeat' (first | refine O_nil ?_ | refine A_seq ?_ | refine A_region ?_ | (show opsA _ _ _ _ _ _ _; refine O_ev WideF.wide rfl (Ev_pure rfl) rfl rfl ?_) | (show wpA _ _ _ (.exit _) _ _ _ _; refine A_exit rfl ?_) | (show wpA _ _ _ (.cond _ _ _) _ _ _ _; (refine A_if rfl (fun h => ?_) (fun h => ?_) <;> try (exfalso; omega))))
      all_goals first
        | (exfalso; omega)
        | exact End_m (Ret0 rfl) ⟨rfl, rfl, rfl⟩
set_option maxRecDepth 100000 in
set_option maxHeartbeats 2000000 in
theorem rotate_fn {H : Hp} {bb no co m : Nat} {ta tm tb : Int} {pre u v post : List Rev} (hta : ta = (pre.length : Int)) (htm : tm = (m : Int)) (htb : tb = (m : Int) + (v.length : Int)) (hm0 : pre.length + u.length = m) (hu : 0 < u.length) (hv : 0 < v.length) (hno : m + v.length + post.length = no) (hm : no < 1048576) :
    Fn Try.prog 114 [.slice (some ⟨bb, 0, none⟩) no co, .int .i64 ta, .int .i64 tm, .int .i64 tb, chronV] H [.row (.slice (some ⟨bb, 0, none⟩) no co) 3 ((pre ++ u ++ v ++ post).map rrow)] fun w H' I' => w = .tuple #[] ∧ H' = H ∧ I' = [.row (.slice (some ⟨bb, 0, none⟩) no co) 3 ((pre ++ v ++ u ++ post).map rrow)] := by
  refine Fn_of _ _ Try.func114 rfl Try.ntmps114 rfl fun c => ?_
  repeat' (first | refine O_nil ?_ | refine A_seq ?_ | refine A_region ?_ | refine A_block ?_ | (show opsA _ _ _ _ _ _ _; first | refine O_ev WideF.wide rfl (Ev_pure rfl) rfl rfl ?_ | (show opsA _ _ _ _ (⟨_, .binOp _ _ _ _ _, _, _, _, _⟩ :: _) _ _; refine O_ev WideF.wide rfl (Ev_sub rfl rfl (wi64 (by omega))) rfl rfl ?_)))
  refine A_loopu (fun k st => ∃ (i j : Nat) (ti tj : Int) (P U V Q : List Rev) (css : List (List Value)), k = i + j ∧ 0 < i ∧ 0 < j ∧ ti = (i : Int) ∧ tj = (j : Int) ∧ P.length + i = m ∧ U.length = i ∧ V.length = j ∧ m + j + Q.length = no ∧ P ++ V ++ U ++ Q = pre ++ v ++ u ++ post ∧ css = (P ++ U ++ V ++ Q).map rrow ∧ st = ⟨58, [(0, .slice (some ⟨bb, 0, none⟩) no co), (2, .int .i64 tm), (4, chronV), (10, .int .i64 ti), (11, .int .i64 tj)], H, [.row (.slice (some ⟨bb, 0, none⟩) no co) 3 css], [], []⟩) ?_ ?_
  · exact Shift.to ⟨_, u.length, v.length, _, _, pre, u, v, post, _, rfl, hu, hv, by omega, by omega, hm0, rfl, rfl, hno, rfl, rfl, rfl⟩ ⟨rfl, rfl, rfl, ⟨rfl, rfl, rfl, rfl, rfl, trivial⟩, Own.subi [0] (by decide) rfl rfl⟩
  · rintro k st ⟨i, j, ti, tj, P, U, V, Q, css, rfl, hi, hj, hti, htj, hP, hU, hV, hQ, hW, hcs, rfl⟩
    subst hcs
    rcases (by omega : i = j ∨ j < i ∨ i < j) with hij | hij | hij
    · subst hij
      have hs := fun Hx (x1 x2 x3 : Int) (q1 : x1 = ((m - i : Nat) : Int)) (q2 : x2 = (m : Int)) (q3 : x3 = (i : Int)) => swap_fn (H := Hx) (bb := bb) (no := no) (co := co) (a := m - i) (b := m) (n := i) (pre := P) (A := U) (mid := []) (B := V) (post := Q) q1 q2 q3 (by omega) hU (by simp; omega) hV hQ hm
      simp only [List.append_nil] at hs
      repeat' (first | (refine O_ef rfl (Ef_call (I := [_]) WideF.wide (hs _ _ _ _ (by omega) (by omega) (by omega)) ⟨rfl, rfl, rfl, rfl, rfl, trivial⟩ rfl ?_); rintro w H2 I2 hle2 ⟨rfl, rfl, rfl⟩) | refine O_nil ?_ | refine A_seq ?_ | refine A_region ?_ | (show opsA _ _ _ _ _ _ _; first | refine O_ev WideF.wide rfl (Ev_pure rfl) rfl rfl ?_ | (show opsA _ _ _ _ (⟨_, .binOp _ _ _ _ _, _, _, _, _⟩ :: _) _ _; refine O_ev WideF.wide rfl (Ev_sub rfl rfl (wi64 (by omega))) rfl rfl ?_)) | (show wpA _ _ _ (.exit _) _ _ _ _; refine A_exit rfl ?_) | (show wpA _ _ _ (.cond _ _ _) _ _ _ _; (refine A_if rfl (fun h => ?_) (fun h => ?_) <;> try (exfalso; omega))))
      all_goals first
        | (exfalso; omega)
        | exact End_m (Ret0 rfl) ⟨rfl, rfl, by rw [hW]; rfl⟩
    · obtain ⟨X, Y, rfl, hX, hY⟩ : ∃ X Y, U = X ++ Y ∧ X.length = j ∧ Y.length = i - j := ⟨U.take j, U.drop j, (List.take_append_drop ..).symm, by rw [List.length_take]; omega, by rw [List.length_drop]; omega⟩
      have hs := fun Hx (x1 x2 x3 : Int) (q1 : x1 = ((m - i : Nat) : Int)) (q2 : x2 = (m : Int)) (q3 : x3 = (j : Int)) => swap_fn (H := Hx) (bb := bb) (no := no) (co := co) (a := m - i) (b := m) (n := j) (pre := P) (A := X) (mid := Y) (B := V) (post := Q) q1 q2 q3 (by omega) hX (by omega) hV hQ hm
      have e1 : P ++ X ++ Y ++ V ++ Q = P ++ (X ++ Y) ++ V ++ Q := by simp
      rw [e1] at hs
      repeat' (first | (refine O_ef rfl (Ef_call (I := [_]) WideF.wide (hs _ _ _ _ (by omega) (by omega) (by omega)) ⟨rfl, rfl, rfl, rfl, rfl, trivial⟩ rfl ?_); rintro w H2 I2 hle2 ⟨rfl, rfl, rfl⟩) | refine O_nil ?_ | refine A_seq ?_ | refine A_region ?_ | refine A_skip ?_ | refine A_block ?_ | (show opsA _ _ _ _ _ _ _; first | refine O_ev WideF.wide rfl (Ev_pure rfl) rfl rfl ?_ | (show opsA _ _ _ _ (⟨_, .binOp _ _ _ _ _, _, _, _, _⟩ :: _) _ _; refine O_ev WideF.wide rfl (Ev_sub rfl rfl (wi64 (by omega))) rfl rfl ?_)) | (show wpA _ _ _ (.cond _ _ _) _ _ _ _; (refine A_if rfl (fun h => ?_) (fun h => ?_) <;> try (exfalso; omega))))
      all_goals first
        | (exfalso; omega)
        | (refine Shift.to ⟨_, ?_, i - j, j, _, _, P ++ V, Y, X, Q, _, rfl, by omega, hj, by omega, htj, by rw [List.length_append]; omega, hY, hX, hQ, by rw [← hW]; simp, rfl, rfl⟩ ⟨rfl, rfl, rfl, ⟨rfl, rfl, rfl, rfl, rfl, trivial⟩, Own.subi [0] (by decide) rfl rfl⟩
           · omega)
    · obtain ⟨Y, Z, rfl, hY, hZ⟩ : ∃ Y Z, V = Y ++ Z ∧ Y.length = j - i ∧ Z.length = i := ⟨V.take (j - i), V.drop (j - i), (List.take_append_drop ..).symm, by rw [List.length_take]; omega, by rw [List.length_drop]; omega⟩
      have hs := fun Hx (x1 x2 x3 : Int) (q1 : x1 = ((m - i : Nat) : Int)) (q2 : x2 = ((m + j - i : Nat) : Int)) (q3 : x3 = (i : Int)) => swap_fn (H := Hx) (bb := bb) (no := no) (co := co) (a := m - i) (b := m + j - i) (n := i) (pre := P) (A := U) (mid := Y) (B := Z) (post := Q) q1 q2 q3 (by omega) hU (by omega) hZ (by omega) hm
      have e1 : P ++ U ++ Y ++ Z ++ Q = P ++ U ++ (Y ++ Z) ++ Q := by simp
      rw [e1] at hs
      repeat' (first | (refine O_ef rfl (Ef_call (I := [_]) WideF.wide (hs _ _ _ _ (by omega) (by omega) (by omega)) ⟨rfl, rfl, rfl, rfl, rfl, trivial⟩ rfl ?_); rintro w H2 I2 hle2 ⟨rfl, rfl, rfl⟩) | refine O_nil ?_ | refine A_seq ?_ | refine A_region ?_ | refine A_skip ?_ | refine A_block ?_ | (show opsA _ _ _ _ _ _ _; first | refine O_ev WideF.wide rfl (Ev_pure rfl) rfl rfl ?_ | (show opsA _ _ _ _ (⟨_, .binOp _ _ _ _ _, _, _, _, _⟩ :: _) _ _; first | refine O_ev WideF.wide rfl (Ev_add rfl rfl (wi64 (by omega))) rfl rfl ?_ | refine O_ev WideF.wide rfl (Ev_sub rfl rfl (wi64 (by omega))) rfl rfl ?_)) | (show wpA _ _ _ (.cond _ _ _) _ _ _ _; (refine A_if rfl (fun h => ?_) (fun h => ?_) <;> try (exfalso; omega))))
      all_goals first
        | (exfalso; omega)
        | (refine Shift.to ⟨_, ?_, i, j - i, _, _, P, Z, Y, U ++ Q, _, rfl, hi, by omega, hti, by omega, hP, hZ, hY, by rw [List.length_append]; omega, by rw [← hW]; simp, by simp, rfl⟩ ⟨rfl, rfl, rfl, ⟨rfl, rfl, rfl, rfl, rfl, trivial⟩, Own.subi [0] (by decide) rfl rfl⟩
           · omega)
end Go.Proofs.Ytlcoebomgaodgaa
