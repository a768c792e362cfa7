/-
  Chronological: cmp.Or, the comparison, slices.Values, Collect, insertionSortCmpFunc.
-/
import Derived.Test.YtlcoebomgaodgaaQ8
namespace Go.Proofs.Ytlcoebomgaodgaa
open Go
set_option linter.unusedVariables false
set_option linter.unusedSimpArgs false
def cmpR (x y : Rev) : Int := if cmpI x.time y.time ≠ 0 then cmpI x.time y.time else cmpI x.id y.id
def ltR (x y : Rev) : Prop := cmpR x y < 0
instance (x y : Rev) : Decidable (ltR x y) := by unfold ltR; infer_instance
theorem ltR_iff {x y : Rev} : ltR x y ↔ x.time < y.time ∨ x.time = y.time ∧ x.id < y.id := by
  unfold ltR cmpR
  by_cases h : x.time = y.time
  · rw [if_neg (fun hh => hh (cmpI_eq.2 h)), cmpI_lt]
    omega
  · rw [if_pos (fun e => h (cmpI_eq.1 e)), cmpI_lt]
    omega
/-- how far to the left an element goes -/
def atR (p : List Rev) (x : Rev) : Nat → Nat
  | 0 => 0
  | k + 1 => if (p[k]?).all (fun y => decide (ltR x y)) then atR p x k else k + 1
theorem atR_le (p : List Rev) (x : Rev) : ∀ k, atR p x k ≤ k
  | 0 => Nat.le_refl _
  | k + 1 => by rw [atR]; split; exact Nat.le_trans (atR_le p x k) (by omega); exact Nat.le_refl _
def insR (p : List Rev) (x : Rev) : List Rev := p.take (atR p x p.length) ++ x :: p.drop (atR p x p.length)
theorem insR_len (p : List Rev) (x : Rev) : (insR p x).length = p.length + 1 := by
  have := atR_le p x p.length
  unfold insR
  simp; omega
theorem two_at {α : Type} {A B : List α} {u v : α} {m : Nat} (h : A.length = m) : (A ++ u :: v :: B)[m]? = some u ∧ (A ++ u :: v :: B)[m + 1]? = some v ∧ ((A ++ u :: v :: B).set (m + 1) u)[m]? = some u ∧ ((A ++ u :: v :: B).set (m + 1) u).set m v = A ++ v :: u :: B := by
  subst h
  refine ⟨by simp, ?_, ?_, ?_⟩
  · rw [List.getElem?_append_right (by omega)]; simp
  · rw [List.set_append_right _ _ (by omega)]; simp
  · rw [List.set_append_right _ _ (by omega), List.set_append_right _ _ (by omega)]; simp
/-- insertion sort -/
def isort (l : List Rev) : List Rev := l.foldl insR []
theorem isort_snoc (l : List Rev) (x : Rev) : isort (l ++ [x]) = insR (isort l) x := by unfold isort; rw [List.foldl_append]; rfl
theorem isort_len (l : List Rev) : (isort l).length = l.length := by
  have key : ∀ (l o : List Rev), (l.foldl insR o).length = o.length + l.length := by
    intro l
    induction l with
    | nil => intro o; rfl
    | cons x r ih => intro o; rw [List.foldl_cons, ih, insR_len, List.length_cons]; omega
  have := key l []
  simpa [isort] using this
attribute [local irreducible] wpA opsA drJ drQ drE Ef Ev Shift Fn
set_option maxRecDepth 100000 in
theorem Or_fn {H : Hp} {a : Option Addr} {x y : Int} (hr : HRow H a 2 2 1 [[.int .i64 x], [.int .i64 y]]) : FnP Try.prog 50 [.slice a 2 2] H (.int .i64 (if x ≠ 0 then x else y)) := by
  obtain ⟨b, o, cs, rfl, hcs, _, hc⟩ := hr.at 0 (by omega)
  cases hcs
  obtain ⟨b2, o2, cs2, ha2, hcs2, _, hc2⟩ := hr.at 1 (by omega)
  cases hcs2
  cases ha2
  refine Fn_of _ _ Try.func50 rfl Try.ntmps50 rfl fun c => ?_
  repeat' (first | refine O_nil ?_ | refine A_seq ?_ | refine A_region ?_ | refine A_block ?_ | (show opsA _ _ _ _ _ _ _; first | refine O_ev WideF.wide rfl (Ev_pure rfl) rfl rfl ?_ | (show opsA _ _ _ _ (⟨_, .call _, _, _, _, _⟩ :: _) _ _; refine O_ev WideF.wide rfl (Ev_llen rfl) rfl rfl ?_)))
  refine A_loopu (fun m st => ∃ (i : Nat), m = 2 - i ∧ i ≤ 2 ∧ (0 < i → x = 0) ∧ (1 < i → y = 0) ∧ st = ⟨18, [(3, .int .i64 0), (6, .slice (some ⟨b, o, none⟩) 2 2), (7, .int .i64 2), (8, .int .i64 (i : Int))], H, [], [], []⟩) ?_ ?_
  · exact Shift.to ⟨_, 0, rfl, by omega, fun h => by omega, fun h => by omega, rfl⟩ ⟨rfl, rfl, rfl, ⟨rfl, rfl, rfl, rfl, trivial⟩, Own.sub_nil _⟩
  · rintro m st ⟨i, rfl, hi, c1, c2, rfl⟩
    rcases (by omega : i = 0 ∨ i = 1 ∨ i = 2) with rfl | rfl | rfl
    · repeat' (first | (refine O_ev WideF.wide rfl (Ev_loadH1 rfl (hc 0 _ rfl)) rfl rfl ?_) | refine O_nil ?_ | refine A_seq ?_ | refine A_region ?_ | refine A_skip ?_ | refine A_ret ?_ | refine A_block ?_ | (show opsA _ _ _ _ _ _ _; first | refine O_ev WideF.wide rfl (Ev_pure rfl) rfl rfl ?_ | (show opsA _ _ _ _ (⟨_, .indexAddr _ _ _, _, _, _, _⟩ :: _) _ _; refine O_ev WideF.wide rfl (Ev_indexAddr rfl rfl (by omega) (by omega)) rfl rfl ?_) | (show opsA _ _ _ _ (⟨_, .binOp _ _ _ _ _, _, _, _, _⟩ :: _) _ _; refine O_ev WideF.wide rfl (Ev_add rfl rfl (wi64 (by omega))) rfl rfl ?_)) | (show wpA _ _ _ (.cond _ _ _) _ _ _ _; (refine A_if rfl (fun h => ?_) (fun h => ?_) <;> try (exfalso; omega))))
      all_goals first
        | (exfalso; omega)
        | exact End_p (Ret1 rfl rfl) (by rw [if_pos (by omega)])
        | exact Shift.to ⟨1, by omega, 1, rfl, by omega, fun _ => by omega, fun h => by omega, rfl⟩ ⟨rfl, rfl, rfl, ⟨rfl, rfl, rfl, rfl, trivial⟩, Own.sub_nil _⟩
    · have hx0 := c1 (by omega)
      repeat' (first | (refine O_ev WideF.wide rfl (Ev_loadH1 rfl (hc2 0 _ rfl)) rfl rfl ?_) | refine O_nil ?_ | refine A_seq ?_ | refine A_region ?_ | refine A_skip ?_ | refine A_ret ?_ | refine A_block ?_ | (show opsA _ _ _ _ _ _ _; first | refine O_ev WideF.wide rfl (Ev_pure rfl) rfl rfl ?_ | (show opsA _ _ _ _ (⟨_, .indexAddr _ _ _, _, _, _, _⟩ :: _) _ _; refine O_ev WideF.wide rfl (Ev_indexAddr rfl rfl (by omega) (by omega)) rfl rfl ?_) | (show opsA _ _ _ _ (⟨_, .binOp _ _ _ _ _, _, _, _, _⟩ :: _) _ _; refine O_ev WideF.wide rfl (Ev_add rfl rfl (wi64 (by omega))) rfl rfl ?_)) | (show wpA _ _ _ (.cond _ _ _) _ _ _ _; (refine A_if rfl (fun h => ?_) (fun h => ?_) <;> try (exfalso; omega))))
      all_goals first
        | (exfalso; omega)
        | exact End_p (Ret1 rfl rfl) (by rw [if_neg (by omega)])
        | exact Shift.to ⟨0, by omega, 2, rfl, by omega, fun _ => hx0, fun _ => by omega, rfl⟩ ⟨rfl, rfl, rfl, ⟨rfl, rfl, rfl, rfl, trivial⟩, Own.sub_nil _⟩
    · have hx0 := c1 (by omega)
      have hy0 := c2 (by omega)
      repeat' (first | refine O_nil ?_ | refine A_seq ?_ | refine A_region ?_ | refine A_ret ?_ | (show opsA _ _ _ _ _ _ _; refine O_ev WideF.wide rfl (Ev_pure rfl) rfl rfl ?_) | (show wpA _ _ _ (.exit _) _ _ _ _; refine A_exit rfl ?_) | (show wpA _ _ _ (.cond _ _ _) _ _ _ _; (refine A_if rfl (fun h => ?_) (fun h => ?_) <;> try (exfalso; omega))))
      all_goals first
        | (exfalso; omega)
        | exact End_p (Ret1 rfl rfl) (by rw [if_neg (by omega), hy0])
set_option maxRecDepth 100000 in
theorem Chron1_fn {H : Hp} {x y : Rev} : FnP Try.prog 49 [.agg (rrow x).toArray, .agg (rrow y).toArray] H (.int .i64 (cmpR x y)) := by
  have hor := fun Hx bb (u v : Int) => Fn.borrow (H := Hx) (a := some ⟨bb, 0, none⟩) (n := 2) (c := 2) (k := 1) (css := [[.int .i64 u], [.int .i64 v]]) (ones_of rfl) (fun H1 _ hr => (Or_fn hr).mono fun v H' I' ⟨h, _, h2⟩ => ⟨h, h2⟩)
  unfold rrow
  refine Fn_of _ _ Try.func49 rfl Try.ntmps49 rfl fun c => ?_
  repeat' (first | (refine A_drawL WideF.wide (.q 0 (.q 1 (.q 2 (.q 3 (.q 5 (.q 6 (.q 7 (.q 8 (.e 4 (.e 9 (.e 10 (.e 11 (.q 12 (.done [])))))))))))))) [] (by decide +kernel) ?_) | (refine E_ef rfl (Ef_callp WideF.wide Compare_fn ⟨rfl, rfl, trivial⟩ rfl ?_); refine ⟨Grow.same rfl rfl, ?_⟩) | (refine E_ef rfl (Ef_buildn WideF.wide (k := 1) (xs := [_, _]) (vs := [_, _]) rfl ⟨rfl, rfl, trivial⟩ rfl rfl rfl rfl rfl rfl ?_); intro bb; refine ⟨Grow.same rfl rfl, ?_⟩) | (refine E_ef rfl (Ef_call (I := [_]) WideF.wide (hor _ _ _ _) ⟨rfl, trivial⟩ rfl ?_); rintro v H1 I1 hle1 ⟨rfl, rfl, rfl⟩; refine ⟨Grow.same rfl rfl, ?_⟩) | refine O_nil ?_ | refine A_seq ?_ | refine A_region ?_ | refine A_ret ?_ | (show drJ _ _ _ _ _ _ _ (.q _ _) _; refine D_q rfl ?_) | (show drJ _ _ _ _ _ _ _ (.e _ _) _; refine D_e rfl ?_) | (show drJ _ _ _ _ _ _ _ (.done _) _; refine D_done ?_; simp only [List.cons_append, List.nil_append]) | (show drQ _ _ _ _ _ _; first | refine D_ev rfl (Ev_pure rfl) rfl rfl ?_ | (show drQ _ _ _ ⟨_, .load _ _, _, _, _, _⟩ _ _; first | refine D_ev rfl (Ev_loadB1 (i := 0) rfl rfl rfl) rfl rfl ?_ | refine D_ev rfl (Ev_loadB1 (i := 1) rfl rfl rfl) rfl rfl ?_) | (show drQ _ _ _ ⟨_, .fieldAddr _ _ _, _, _, _, _⟩ _ _; refine D_ev rfl (Ev_fieldAddr rfl rfl rfl) rfl rfl ?_)) | (show opsA _ _ _ _ _ _ _; first | refine O_ev WideF.wide rfl (Ev_pure rfl) rfl rfl ?_ | (show opsA _ _ _ _ (⟨_, .box _ _, _, _, _, _⟩ :: _) _ _; (refine O_ef rfl (Ef_boxa WideF.wide rfl rfl ?_); intro b))))
  exact End_p (Ret1 rfl rfl) rfl
abbrev chronV : Value := .func (.func 49) #[] #[]
set_option maxRecDepth 100000 in
set_option maxHeartbeats 2000000 in
theorem insSort_fn {H : Hp} {ao : Option Addr} {no co lo hi : Nat} {pre seg post : List Rev} (hlo : pre.length = lo) (hhi : lo + seg.length = hi) (hno : hi + post.length = no) (hm : no < 1048576) :
    Fn Try.prog 102 [.slice ao no co, .int .i64 (lo : Int), .int .i64 (hi : Int), chronV] H [.row (.slice ao no co) 3 ((pre ++ seg ++ post).map rrow)] fun v H' I' => v = .tuple #[] ∧ H' = H ∧ I' = [.row (.slice ao no co) 3 ((pre ++ isort seg ++ post).map rrow)] := by
  refine Fn_of _ _ Try.func102 rfl Try.ntmps102 rfl fun c => ?_
  refine A_rowaddr (q := 0) rfl ?_
  intro r1 r2 r3 r4 r5
  by_cases hsm : seg.length ≤ 1
  · have hs : isort seg = seg := by
      match seg, hsm with
      | [], _ => rfl
      | [x], _ => rfl
      | _ :: _ :: _, h => simp at h
    rw [hs]
    repeat' (first | refine O_nil ?_ | refine A_seq ?_ | refine A_region ?_ | refine A_block ?_ | (show opsA _ _ _ _ _ _ _; first | refine O_ev WideF.wide rfl (Ev_pure rfl) rfl rfl ?_ | (show opsA _ _ _ _ (⟨_, .binOp _ _ _ _ _, _, _, _, _⟩ :: _) _ _; refine O_ev WideF.wide rfl (Ev_add rfl rfl (wi64 (by omega))) rfl rfl ?_)))
    refine A_loopu (fun m st => m = 0 ∧ st = ⟨53, [(0, .slice ao no co), (1, .int .i64 (lo : Int)), (2, .int .i64 (hi : Int)), (3, chronV), (8, .int .i64 ((lo : Int) + 1))], H, [.row (.slice ao no co) 3 ((pre ++ seg ++ post).map rrow)], [], []⟩) ?_ ?_
    · exact Shift.to ⟨_, rfl, rfl⟩ ⟨rfl, rfl, rfl, ⟨rfl, rfl, rfl, rfl, rfl, trivial⟩, Own.subi [0] (by decide) rfl rfl⟩
    · rintro m st ⟨rfl, rfl⟩
      repeat' (first | refine O_nil ?_ | refine A_seq ?_ | refine A_region ?_ | (show opsA _ _ _ _ _ _ _; refine O_ev WideF.wide rfl (Ev_pure rfl) rfl rfl ?_) | (show wpA _ _ _ (.exit _) _ _ _ _; refine A_exit rfl ?_) | (show wpA _ _ _ (.cond _ _ _) _ _ _ _; (refine A_if rfl (fun h => ?_) (fun h => ?_) <;> try (exfalso; omega))))
      all_goals first
        | (exfalso; omega)
        | exact End_m (Ret0 rfl) ⟨rfl, rfl, rfl⟩
  obtain ⟨bb, rfl⟩ : ∃ bb, ao = some ⟨bb, 0, none⟩ := by
    cases ao with
    | none => have := (r3 rfl).1; simp at this; rw [this.2.1] at hsm; simp at hsm
    | some ad => obtain ⟨bb, rfl⟩ := r5 _ rfl; exact ⟨bb, rfl⟩
  repeat' (first | refine O_nil ?_ | refine A_seq ?_ | refine A_region ?_ | refine A_block ?_ | (show opsA _ _ _ _ _ _ _; first | refine O_ev WideF.wide rfl (Ev_pure rfl) rfl rfl ?_ | (show opsA _ _ _ _ (⟨_, .binOp _ _ _ _ _, _, _, _, _⟩ :: _) _ _; refine O_ev WideF.wide rfl (Ev_add rfl rfl (wi64 (by omega))) rfl rfl ?_)))
  refine A_loopu (fun m st => ∃ (i : Nat) (t : Int) (css : List (List Value)), m = seg.length - i ∧ 1 ≤ i ∧ i ≤ seg.length ∧ t = lo + i ∧ css = (pre ++ isort (seg.take i) ++ seg.drop i ++ post).map rrow ∧ st = ⟨53, [(0, .slice (some ⟨bb, 0, none⟩) no co), (1, .int .i64 (lo : Int)), (2, .int .i64 (hi : Int)), (3, chronV), (8, .int .i64 t)], H, [.row (.slice (some ⟨bb, 0, none⟩) no co) 3 css], [], []⟩) ?_ ?_
  · have e1 : isort (seg.take 1) = seg.take 1 := by
      match seg with
      | [] => rfl
      | x :: _ => rfl
    have e2 : pre ++ isort (seg.take 1) ++ seg.drop 1 ++ post = pre ++ seg ++ post := by rw [e1, List.append_assoc pre, List.take_append_drop]
    exact Shift.to ⟨_, 1, _, _, rfl, by omega, by omega, rfl, by rw [e2], rfl⟩ ⟨rfl, rfl, rfl, ⟨rfl, rfl, rfl, rfl, rfl, trivial⟩, Own.subi [0] (by decide) rfl rfl⟩
  · rintro m st ⟨i, t, css, rfl, h1, hi', ht, hcs, rfl⟩
    have hcl : css.length = no := by
      have hl := isort_len (seg.take i)
      rw [List.length_take] at hl
      rw [hcs, List.length_map]
      simp only [List.length_append, List.length_drop]
      omega
    by_cases hlt : i < seg.length
    · obtain ⟨x, hx⟩ : ∃ x, seg[i]? = some x := ⟨seg[i], List.getElem?_eq_getElem hlt⟩
      have hil : (isort (seg.take i)).length = i := by rw [isort_len, List.length_take]; omega
      have hsn : isort (seg.take (i + 1)) = insR (isort (seg.take i)) x := by rw [take_get hx, isort_snoc]
      rw [drop_get hx] at hcs
      generalize isort (seg.take i) = p at hil hsn hcs
      generalize hrest : seg.drop (i + 1) = rest at hcs
      have hrl : rest.length = seg.length - (i + 1) := by rw [← hrest]; simp
      repeat' (first | refine O_nil ?_ | refine A_seq ?_ | refine A_region ?_ | refine A_skip ?_ | refine A_block ?_ | (show opsA _ _ _ _ _ _ _; refine O_ev WideF.wide rfl (Ev_pure rfl) rfl rfl ?_) | (show wpA _ _ _ (.cond _ _ _) _ _ _ _; (refine A_if rfl (fun h => ?_) (fun h => ?_) <;> try (exfalso; omega))))
      refine A_loopu (fun m st => ∃ (j : Nat) (u : Int) (css : List (List Value)), m = 0 + j ∧ j ≤ i ∧ atR p x i = atR p x j ∧ u = lo + j ∧ css = (pre ++ (p.take j ++ x :: p.drop j) ++ rest ++ post).map rrow ∧ css.length = no ∧ st = ⟨53, [(0, .slice (some ⟨bb, 0, none⟩) no co), (1, .int .i64 (lo : Int)), (2, .int .i64 (hi : Int)), (3, chronV), (8, .int .i64 t), (9, .int .i64 u)], H, [.row (.slice (some ⟨bb, 0, none⟩) no co) 3 css], [], []⟩) ?_ ?_
      · have e4 : pre ++ (p.take i ++ x :: p.drop i) ++ rest ++ post = pre ++ p ++ x :: rest ++ post := by
          rw [List.take_of_length_le (by omega), List.drop_eq_nil_of_le (by omega)]; simp
        exact Shift.to ⟨_, i, _, _, rfl, Nat.le_refl _, rfl, ht, by rw [e4]; exact hcs, hcl, rfl⟩ ⟨rfl, rfl, rfl, ⟨rfl, rfl, rfl, rfl, rfl, rfl, trivial⟩, Own.subi [0] (by decide) rfl rfl⟩
      · rintro m st ⟨j, u, css, rfl, hj, hat, hu, hcs, hcl, rfl⟩
        have hin : insR p x = p.take (atR p x i) ++ x :: p.drop (atR p x i) := by unfold insR; rw [hil]
        cases j with
        | zero =>
          rw [atR] at hat
          rw [hat] at hin
          repeat' (first | (refine A_drawL WideF.wide (.q 0 (.q 1 (.q 2 (.q 3 (.q 4 (.q 5 (.q 6 (.q 7 (.q 8 (.q 9 (.q 10 (.q 11 (.q 12 (.q 13 (.e 14 (.q 15 (.q 16 (.done [])))))))))))))))))) [] (by decide +kernel) ?_) | refine O_nil ?_ | refine A_seq ?_ | refine A_region ?_ | (show drJ _ _ _ _ _ _ _ (.q _ _) _; refine D_q rfl ?_) | (show drJ _ _ _ _ _ _ _ (.e _ _) _; refine D_e rfl ?_) | (show drJ _ _ _ _ _ _ _ (.done _) _; refine D_done ?_; simp only [List.cons_append, List.nil_append]) | (show drQ _ _ _ _ _ _; first | (refine D_split rfl rfl (fun h => ?_) (fun h => ?_) <;> try (exfalso; omega)) | refine D_ev rfl (Ev_pure rfl) rfl rfl ?_ | refine D_skip rfl rfl rfl ?_) | (show drE _ _ _ _ _ _ _; refine E_skip rfl rfl rfl ?_) | (show opsA _ _ _ _ _ _ _; first | refine O_ev WideF.wide rfl (Ev_pure rfl) rfl rfl ?_ | (show opsA _ _ _ _ (⟨_, .binOp _ _ _ _ _, _, _, _, _⟩ :: _) _ _; refine O_ev WideF.wide rfl (Ev_add rfl rfl (wi64 (by omega))) rfl rfl ?_)) | (show wpA _ _ _ (.exit _) _ _ _ _; refine A_exit rfl ?_) | (show wpA _ _ _ (.cond _ _ _) _ _ _ _; refine A_iffalse rfl ?_))
          all_goals first
            | (exfalso; omega)
            | (refine Shift.to ⟨_, ?_, i + 1, _, _, rfl, by omega, by omega, ?_, by rw [hsn, hin, hrest]; exact hcs, rfl⟩ ⟨rfl, rfl, rfl, ⟨rfl, rfl, rfl, rfl, rfl, trivial⟩, Own.subi [0] (by decide) rfl rfl⟩
               · omega
               · omega)
        | succ j =>
          obtain ⟨y, hy⟩ : ∃ y, p[j]? = some y := ⟨p[j], List.getElem?_eq_getElem (by omega)⟩
          have hpj : p.take (j + 1) = p.take j ++ [y] := take_get hy
          have hpd : p.drop j = y :: p.drop (j + 1) := drop_get hy
          have hjl : (p.take j).length = j := by rw [List.length_take]; omega
          have hcs2 : css = (pre ++ p.take j).map rrow ++ rrow y :: rrow x :: (p.drop (j + 1) ++ rest ++ post).map rrow := by rw [hcs, hpj]; simp
          have hAl : ((pre ++ p.take j).map rrow).length = lo + j := by rw [List.length_map, List.length_append, hjl, hlo]
          obtain ⟨g2, g1, g3, g4⟩ := two_at (A := (pre ++ p.take j).map rrow) (B := (p.drop (j + 1) ++ rest ++ post).map rrow) (u := rrow y) (v := rrow x) hAl
          rw [← hcs2] at g1 g2 g3 g4
          have hcs3 : (pre ++ p.take j).map rrow ++ rrow x :: rrow y :: (p.drop (j + 1) ++ rest ++ post).map rrow = (pre ++ (p.take j ++ x :: p.drop j) ++ rest ++ post).map rrow := by rw [hpd]; simp
          have hch := fun Hx => Chron1_fn (H := Hx) (x := x) (y := y)
          have hox : ∀ u ∈ rrow x, u.oneCell' = true := fun u hu => rrow_one [x] (rrow x) (by simp) u hu
          have hoy : ∀ u ∈ rrow y, u.oneCell' = true := fun u hu => rrow_one [y] (rrow y) (by simp) u hu
          have hat2 : atR p x (j + 1) = if ltR x y then atR p x j else j + 1 := by
            rw [atR, hy]; simp
          rw [hat2] at hat
          by_cases hl : ltR x y
          · rw [if_pos hl] at hat
            have hl' : cmpR x y < 0 := hl
            repeat' (first | (refine A_drawL WideF.wide (.q 0 (.q 1 (.q 2 (.q 3 (.q 4 (.q 5 (.q 6 (.q 7 (.q 8 (.q 9 (.q 10 (.q 11 (.q 12 (.q 13 (.e 14 (.q 15 (.q 16 (.done [])))))))))))))))))) [] (by decide +kernel) ?_) | (refine A_drawi WideF.wide (.q 0 (.q 1 (.p 2 (.p 3 (.p 4 (.q 5 (.q 6 (.q 7 (.q 8 (.q 9 (.q 10 (.q 11 (.q 12 (.q 13 (.r (.q 14 (.e 15 (.q 16 (.e 17 (.done [])))))))))))))))))))) [14, 15, 16, 17] [] [0] (by decide +kernel) (by decide) rfl ?_; simp only [Own.picks, Own.rget, List.cons_append, List.nil_append, List.append_nil]) | (refine D_ev rfl (Ev_loadR (q := 0) rfl rfl g1 (by omega) rfl) rfl rfl ?_) | (refine D_ev rfl (Ev_loadR (q := 0) rfl rfl g2 (by omega) rfl) rfl rfl ?_) | (refine E_ef rfl (Ef_callvp WideF.wide (hch _) rfl ⟨rfl, rfl, trivial⟩ rfl ?_); refine ⟨Grow.same rfl rfl, ?_⟩) | (refine E_ef rfl (Ef_storeR WideF.wide (dd := 0) (cs := rrow x) (cs' := rrow y) rfl rfl g1 (by omega) rfl hoy (Nat.le_of_ble_eq_true rfl) rfl ?_); refine ⟨Grow.same rfl rfl, ?_⟩) | (refine E_ef rfl (Ef_storeR WideF.wide (dd := 0) (cs := rrow y) (cs' := rrow x) rfl rfl g3 (by omega) rfl hox (Nat.le_of_ble_eq_true rfl) rfl ?_); refine ⟨Grow.same rfl rfl, ?_⟩) | refine O_nil ?_ | refine A_seq ?_ | refine A_region ?_ | refine A_skip ?_ | refine A_block ?_ | (show drJ _ _ _ _ _ _ _ (.q _ _) _; refine D_q rfl ?_) | (show drJ _ _ _ _ _ _ _ (.e _ _) _; refine D_e rfl ?_) | (show drJ _ _ _ _ _ _ _ (.r _) _; refine D_r ?_; simp only [List.cons_append, List.nil_append]) | (show drJ _ _ _ _ _ _ _ (.done _) _; refine D_done ?_; simp only [List.cons_append, List.nil_append]) | (show drQ _ _ _ _ _ _; first | (refine D_split rfl rfl (fun h => ?_) (fun h => ?_) <;> try (exfalso; omega)) | refine D_ev rfl (Ev_pure rfl) rfl rfl ?_ | (show drQ _ _ _ ⟨_, .indexAddr _ _ _, _, _, _, _⟩ _ _; refine D_ev rfl (Ev_indexAddr rfl rfl (by omega) (by omega)) rfl rfl ?_) | (show drQ _ _ _ ⟨_, .binOp _ _ _ _ _, _, _, _, _⟩ _ _; refine D_ev rfl (Ev_sub rfl rfl (wi64 (by omega))) rfl rfl ?_)) | (show drJ _ _ _ _ _ _ _ (.p _ _) _; refine D_p rfl ?_) | (show drP _ _ _ _ _ _; first | refine D_pv rfl (Ev_pure rfl) rfl rfl ?_ | (show drP _ _ _ ⟨_, .binOp _ _ _ _ _, _, _, _, _⟩ _ _; refine D_pv rfl (Ev_sub rfl rfl (wi64 (by omega))) rfl rfl ?_)) | (show opsA _ _ _ _ _ _ _; first | refine O_ev WideF.wide rfl (Ev_pure rfl) rfl rfl ?_ | (show opsA _ _ _ _ (⟨_, .binOp _ _ _ _ _, _, _, _, _⟩ :: _) _ _; refine O_ev WideF.wide rfl (Ev_sub rfl rfl (wi64 (by omega))) rfl rfl ?_)) | (show wpA _ _ _ (.cond _ _ _) _ _ _ _; (refine A_if rfl (fun h => ?_) (fun h => ?_) <;> try (exfalso; omega))))
            all_goals first
              | (exfalso; omega)
              | (refine Shift.to ⟨_, ?_, j, _, _, rfl, by omega, hat, ?_, g4.trans hcs3, ?_, rfl⟩ ⟨rfl, rfl, rfl, ⟨rfl, rfl, rfl, rfl, rfl, rfl, trivial⟩, Own.subi [0] (by decide) rfl rfl⟩
                 · omega
                 · omega
                 · simp [hcl])
          · rw [if_neg hl] at hat
            rw [hat] at hin
            have hl' : ¬ cmpR x y < 0 := hl
            repeat' (first | (refine A_drawL WideF.wide (.q 0 (.q 1 (.q 2 (.q 3 (.q 4 (.q 5 (.q 6 (.q 7 (.q 8 (.q 9 (.q 10 (.q 11 (.q 12 (.q 13 (.e 14 (.q 15 (.q 16 (.done [])))))))))))))))))) [] (by decide +kernel) ?_) | (refine D_ev rfl (Ev_loadR (q := 0) rfl rfl g1 (by omega) rfl) rfl rfl ?_) | (refine D_ev rfl (Ev_loadR (q := 0) rfl rfl g2 (by omega) rfl) rfl rfl ?_) | (refine E_ef rfl (Ef_callvp WideF.wide (hch _) rfl ⟨rfl, rfl, trivial⟩ rfl ?_); refine ⟨Grow.same rfl rfl, ?_⟩) | refine O_nil ?_ | refine A_seq ?_ | refine A_region ?_ | (show drJ _ _ _ _ _ _ _ (.q _ _) _; refine D_q rfl ?_) | (show drJ _ _ _ _ _ _ _ (.e _ _) _; refine D_e rfl ?_) | (show drJ _ _ _ _ _ _ _ (.done _) _; refine D_done ?_; simp only [List.cons_append, List.nil_append]) | (show drQ _ _ _ _ _ _; first | (refine D_split rfl rfl (fun h => ?_) (fun h => ?_) <;> try (exfalso; omega)) | refine D_ev rfl (Ev_pure rfl) rfl rfl ?_ | (show drQ _ _ _ ⟨_, .indexAddr _ _ _, _, _, _, _⟩ _ _; refine D_ev rfl (Ev_indexAddr rfl rfl (by omega) (by omega)) rfl rfl ?_) | (show drQ _ _ _ ⟨_, .binOp _ _ _ _ _, _, _, _, _⟩ _ _; refine D_ev rfl (Ev_sub rfl rfl (wi64 (by omega))) rfl rfl ?_)) | (show opsA _ _ _ _ _ _ _; first | refine O_ev WideF.wide rfl (Ev_pure rfl) rfl rfl ?_ | (show opsA _ _ _ _ (⟨_, .binOp _ _ _ _ _, _, _, _, _⟩ :: _) _ _; refine O_ev WideF.wide rfl (Ev_add rfl rfl (wi64 (by omega))) rfl rfl ?_)) | (show wpA _ _ _ (.exit _) _ _ _ _; refine A_exit rfl ?_) | (show wpA _ _ _ (.cond _ _ _) _ _ _ _; (refine A_if rfl (fun h => ?_) (fun h => ?_) <;> try (exfalso; omega))))
            all_goals first
              | (exfalso; omega)
              | (refine Shift.to ⟨_, ?_, i + 1, _, _, rfl, by omega, by omega, ?_, by rw [hsn, hin, hrest]; exact hcs, rfl⟩ ⟨rfl, rfl, rfl, ⟨rfl, rfl, rfl, rfl, rfl, trivial⟩, Own.subi [0] (by decide) rfl rfl⟩
                 · omega
                 · omega)
    · have hi2 : i = seg.length := by omega
      subst hi2
      rw [List.take_of_length_le (Nat.le_refl _), List.drop_eq_nil_of_le (Nat.le_refl _), List.append_nil] at hcs
      subst hcs
      repeat' (first | refine O_nil ?_ | refine A_seq ?_ | refine A_region ?_ | (show opsA _ _ _ _ _ _ _; refine O_ev WideF.wide rfl (Ev_pure rfl) rfl rfl ?_) | (show wpA _ _ _ (.exit _) _ _ _ _; refine A_exit rfl ?_) | (show wpA _ _ _ (.cond _ _ _) _ _ _ _; (refine A_if rfl (fun h => ?_) (fun h => ?_) <;> try (exfalso; omega))))
      all_goals first
        | (exfalso; omega)
        | exact End_m (Ret0 rfl) ⟨rfl, rfl, rfl⟩
end Go.Proofs.Ytlcoebomgaodgaa
