/-
  What is wrong with a decision; mark.CheckDecision.
-/
import Derived.Test.YthniohgeojenaaaS2
namespace Go.Proofs.Ythniohgeojenaaa
open Go
set_option linter.unusedVariables false
set_option linter.unusedSimpArgs false
/-- the error of the number at a place -/
def errAt (l : List Int) (i : Nat) : Int :=
  match l[i]? with
  | none => 0
  | some x => if x < 1 ∨ 1073741824 < x then 22
    else match i with
      | 0 => 0
      | j + 1 => match l[j]? with
        | none => 0
        | some p => if x = p then 7 else if x < p then 6 else 0
def errFrom (l : List Int) : Nat → Nat → Int
  | 0, _ => 0
  | m + 1, i => if errAt l i ≠ 0 then errAt l i else errFrom l m (i + 1)
def chkL (l : List Int) : Int := errFrom l l.length 0
theorem errFrom_skip {l : List Int} : ∀ (i m s : Nat), (∀ j, j < i → errAt l (s + j) = 0) → errFrom l (i + m) s = errFrom l m (s + i)
  | 0, m, s, _ => by simp
  | i + 1, m, s, h => by
    rw [show i + 1 + m = (i + m) + 1 by omega, errFrom, if_neg (by rw [show s = s + 0 by omega, h 0 (by omega)]; simp), errFrom_skip i m (s + 1) (fun j hj => by rw [show s + 1 + j = s + (j + 1) by omega]; exact h (j + 1) (by omega))]
    rw [show s + 1 + i = s + (i + 1) by omega]
theorem chkL_at {l : List Int} {i : Nat} (hi : i < l.length) (h : ∀ j, j < i → errAt l j = 0) (he : errAt l i ≠ 0) : chkL l = errAt l i := by
  unfold chkL
  rw [show l.length = i + (l.length - i - 1 + 1) by omega, errFrom_skip i _ 0 (fun j hj => by rw [Nat.zero_add]; exact h j hj), Nat.zero_add, errFrom, if_pos he]
theorem chkL_ok {l : List Int} (h : ∀ j, j < l.length → errAt l j = 0) : chkL l = 0 := by
  unfold chkL
  rw [show l.length = l.length + 0 by omega, errFrom_skip l.length 0 0 (fun j hj => by rw [Nat.zero_add]; exact h j hj)]
  rfl
theorem errFrom_zero {l : List Int} : ∀ (m s : Nat), errFrom l m s = 0 → ∀ j, j < m → errAt l (s + j) = 0
  | 0, s, _, j, hj => by omega
  | m + 1, s, h, j, hj => by
    rw [errFrom] at h
    by_cases h0 : errAt l s = 0
    · rw [if_neg (by simp [h0])] at h
      cases j with
      | zero => exact h0
      | succ j => rw [show s + (j + 1) = s + 1 + j by omega]; exact errFrom_zero m (s + 1) h j (by omega)
    · rw [if_pos h0] at h; exact absurd h h0
theorem chkL_zero {l : List Int} (h : chkL l = 0) : ∀ j, j < l.length → errAt l j = 0 := fun j hj => by
  have := errFrom_zero l.length 0 h j hj
  rwa [Nat.zero_add] at this
/-- lists without an error are in order, and their numbers are fine -/
theorem chkL_inc {l : List Int} (h : chkL l = 0) : Inc l ∧ ∀ x ∈ l, 1 ≤ x ∧ x ≤ 1073741824 := by
  have hz := chkL_zero h
  have hx : ∀ x ∈ l, 1 ≤ x ∧ x ≤ 1073741824 := fun x hm => by
    obtain ⟨i, hi, rfl⟩ := List.getElem_of_mem hm
    have := hz i hi
    unfold errAt at this
    rw [List.getElem?_eq_getElem hi] at this
    simp only at this
    by_cases hb : l[i] < 1 ∨ 1073741824 < l[i]
    · rw [if_pos hb] at this; cases this
    · omega
  refine ⟨?_, hx⟩
  have step : ∀ i (hi : i + 1 < l.length), l[i] < l[i + 1] := fun i hi => by
    have := hz (i + 1) hi
    unfold errAt at this
    rw [List.getElem?_eq_getElem hi] at this
    simp only at this
    have hb := hx l[i + 1] (List.getElem_mem hi)
    rw [if_neg (by omega), List.getElem?_eq_getElem (by omega)] at this
    simp only at this
    by_cases h1 : l[i + 1] = l[i]
    · rw [if_pos h1] at this; cases this
    · rw [if_neg h1] at this
      by_cases h2 : l[i + 1] < l[i]
      · rw [if_pos h2] at this; cases this
      · omega
  have far : ∀ d i (hi : i + d + 1 < l.length), l[i] < l[i + d + 1] := by
    intro d
    induction d with
    | zero => intro i hi; exact step i hi
    | succ d ih =>
      intro i hi
      have h1 := ih i (by omega)
      have h2 := step (i + d + 1) (by omega)
      exact Int.lt_trans h1 h2
  refine List.pairwise_iff_getElem.2 fun i j hi hj hij => ?_
  obtain ⟨d, rfl⟩ : ∃ d, j = i + d + 1 := ⟨j - i - 1, by omega⟩
  exact far d i hj
theorem chkL_of {l : List Int} (hs : Inc l) (hx : ∀ x ∈ l, 1 ≤ x ∧ x ≤ 1073741824) : chkL l = 0 := chkL_ok fun j hj => by
  unfold errAt
  rw [List.getElem?_eq_getElem hj]
  simp only
  have hb := hx l[j] (List.getElem_mem hj)
  rw [if_neg (by omega)]
  cases j with
  | zero => rfl
  | succ i =>
    simp only
    rw [List.getElem?_eq_getElem (by omega)]
    simp only
    have := List.pairwise_iff_getElem.1 hs i (i + 1) (by omega) hj (by omega)
    rw [if_neg (by omega), if_neg (by omega)]
def chkD (d : Dec) : Int := if chkL d.acc ≠ 0 then chkL d.acc else if chkL d.rej ≠ 0 then chkL d.rej else if d.acc.any (fun x => decide (x ∈ d.rej)) then 23 else 0
attribute [local irreducible] wpA opsA drJ drQ drE Ef Ev Shift Fn
section
variable {gf : FuncId} {caps : List Value} {p : Int → Bool} [hgf : FunC Try.prog gf]
set_option maxRecDepth 100000 in
theorem idxFI_fn {H : Hp} {a : Option Addr} {n cq : Nat} {l : List Int} (hx : HRow H a n cq 1 (l.map irow)) (hm : n < 68719476736) (hg : ∀ x, FnP Try.prog gf (.int .i64 x :: caps) H (.bool (p x))) :
    Fn Try.prog 96 [.slice a n cq, fv gf caps] H [] fun v H' I' => (∃ i : Int, v = .int .i64 i ∧ decide (0 ≤ i) = l.any p) ∧ H' = H ∧ I' = [] := by
  have e1 : l.length = n := by have := hx.len; simpa using this
  refine Fn_of _ _ Try.func96 rfl Try.ntmps96 rfl fun c => ?_
  repeat' (first | refine O_nil ?_ | refine A_seq ?_ | refine A_region ?_ | refine A_block ?_ | (show opsA _ _ _ _ _ _ _; first | refine O_ev WideF.wide rfl (Ev_pure rfl) rfl rfl ?_ | (show opsA _ _ _ _ (⟨_, .call _, _, _, _, _⟩ :: _) _ _; refine O_ev WideF.wide rfl (Ev_llen rfl) rfl rfl ?_)))
  refine A_loopu (fun m s => ∃ i : Nat, m = n - i ∧ i ≤ n ∧ (∀ d ∈ l.take i, p d = false) ∧ s = ⟨19, [(0, .slice a n cq), (1, fv gf caps), (7, .int .i64 n), (8, .int .i64 i)], H, [], [], []⟩) ?_ ?_
  · exact Shift.to ⟨_, 0, rfl, by omega, fun d hd => by simp at hd, rfl⟩ ⟨rfl, rfl, rfl, ⟨rfl, rfl, rfl, rfl, trivial⟩, Own.sub_nil _⟩
  · rintro m s ⟨i, rfl, hi, hall, rfl⟩
    by_cases hlt : i < n
    · obtain ⟨b, o, y, rfl, hyi, hc⟩ := hx.atm i hlt
      have hgy := hg y
      unfold irow at hc
      cases hpy : p y with
      | true =>
        rw [hpy] at hgy
        repeat' (first | (refine O_ev WideF.wide rfl (Ev_loadH1 rfl (hc 0 _ rfl)) rfl rfl ?_) | (refine O_ef rfl (Ef_callcp (args := [_]) WideF.wide hgy rfl ⟨rfl, trivial⟩ rfl ?_)) | refine O_nil ?_ | refine A_seq ?_ | refine A_region ?_ | refine A_skip ?_ | refine A_ret ?_ | refine A_block ?_ | (show opsA _ _ _ _ _ _ _; first | refine O_ev WideF.wide rfl (Ev_pure rfl) rfl rfl ?_ | (show opsA _ _ _ _ (⟨_, .indexAddr _ _ _, _, _, _, _⟩ :: _) _ _; refine O_ev WideF.wide rfl (Ev_indexAddr rfl rfl (by omega) (by omega)) rfl rfl ?_)) | (show wpA _ _ _ (.cond _ _ _) _ _ _ _; first | (refine A_if rfl (fun h => ?_) (fun h => ?_) <;> try (exfalso; omega)) | refine A_iftrue rfl ?_))
        refine End_e (Ret1 rfl rfl) ⟨⟨i, rfl, ?_⟩, rfl, rfl⟩
        have h1 : l.any p = true := List.any_eq_true.2 ⟨y, List.mem_of_getElem? hyi, hpy⟩
        rw [h1]; simp
      | false =>
        rw [hpy] at hgy
        repeat' (first | (refine O_ev WideF.wide rfl (Ev_loadH1 rfl (hc 0 _ rfl)) rfl rfl ?_) | (refine O_ef rfl (Ef_callcp (args := [_]) WideF.wide hgy rfl ⟨rfl, trivial⟩ rfl ?_)) | refine O_nil ?_ | refine A_seq ?_ | refine A_region ?_ | refine A_skip ?_ | refine A_block ?_ | (show opsA _ _ _ _ _ _ _; first | refine O_ev WideF.wide rfl (Ev_pure rfl) rfl rfl ?_ | (show opsA _ _ _ _ (⟨_, .indexAddr _ _ _, _, _, _, _⟩ :: _) _ _; refine O_ev WideF.wide rfl (Ev_indexAddr rfl rfl (by omega) (by omega)) rfl rfl ?_) | (show opsA _ _ _ _ (⟨_, .binOp _ _ _ _ _, _, _, _, _⟩ :: _) _ _; refine O_ev WideF.wide rfl (Ev_add rfl rfl (wi64 (by omega))) rfl rfl ?_)) | (show wpA _ _ _ (.cond _ _ _) _ _ _ _; first | (refine A_if rfl (fun h => ?_) (fun h => ?_) <;> try (exfalso; omega)) | refine A_iffalse rfl ?_))
        refine Shift.to ⟨_, ?_, i + 1, rfl, by omega, fun d hd => ?_, rfl⟩ ⟨rfl, rfl, rfl, ⟨rfl, rfl, rfl, rfl, trivial⟩, Own.sub_nil _⟩
        · omega
        · rw [take_get hyi] at hd
          rcases List.mem_append.1 hd with hd | hd
          · exact hall d hd
          · simp at hd; subst hd; exact hpy
    · have hin : n = i := by omega
      subst hin
      repeat' (first | refine O_nil ?_ | refine A_seq ?_ | refine A_region ?_ | refine A_ret ?_ | (show opsA _ _ _ _ _ _ _; refine O_ev WideF.wide rfl (Ev_pure rfl) rfl rfl ?_) | (show wpA _ _ _ (.exit _) _ _ _ _; refine A_exit rfl ?_) | (show wpA _ _ _ (.cond _ _ _) _ _ _ _; (refine A_if rfl (fun h => ?_) (fun h => ?_) <;> try (exfalso; omega))))
      refine End_e (Ret1 rfl rfl) ⟨⟨-1, rfl, ?_⟩, rfl, rfl⟩
      rw [List.take_of_length_le (by omega)] at hall
      have h1 : l.any p = false := List.any_eq_false.2 fun d hd => by simp [hall d hd]
      rw [h1]; rfl
set_option maxRecDepth 100000 in
theorem conFI_fn {H : Hp} {a : Option Addr} {n cq : Nat} {l : List Int} (hx : HRow H a n cq 1 (l.map irow)) (hm : n < 68719476736) (hg : ∀ x, FnP Try.prog gf (.int .i64 x :: caps) H (.bool (p x))) :
    FnP Try.prog 74 [.slice a n cq, fv gf caps] H (.bool (l.any p)) := by
  have hi := idxFI_fn hx hm hg
  refine Fn_of _ _ Try.func74 rfl Try.ntmps74 rfl fun c => ?_
  repeat' (first | (refine O_ef rfl (Ef_call (I := []) WideF.wide hi ⟨rfl, rfl, trivial⟩ rfl ?_); rintro v H' I' hk ⟨⟨i, rfl, hi2⟩, rfl, rfl⟩) | refine O_nil ?_ | refine A_seq ?_ | refine A_region ?_ | refine A_ret ?_ | (show opsA _ _ _ _ _ _ _; refine O_ev WideF.wide rfl (Ev_pure rfl) rfl rfl ?_))
  refine End_p (Ret1 rfl rfl) ?_
  rw [← hi2]
end
set_option maxRecDepth 100000 in
theorem chk1_fn {H : Hp} {b : Nat} {aa ra : Option Addr} {an ac rn rc : Nat} {l : List Int} (hb : HCells H b 0 [.slice aa an ac, .slice ra rn rc]) (hr : HRow H ra rn rc 1 (l.map irow)) (hs : Inc l) (hm : rn < 68719476736) (x : Int) : FnP Try.prog 75 [.int .i64 x, ptr b] H (.bool (decide (x ∈ l))) := by
  have hh := has_fn (x := x) hr hs hm
  refine Fn_of _ _ Try.func75 rfl Try.ntmps75 rfl fun c => ?_
  repeat' (first | (refine O_ev WideF.wide rfl (Ev_loadH1 rfl (hb 1 _ rfl)) rfl rfl ?_) | (refine O_ef rfl (Ef_callp WideF.wide hh ⟨rfl, rfl, trivial⟩ rfl ?_)) | refine O_nil ?_ | refine A_seq ?_ | refine A_region ?_ | refine A_ret ?_ | (show opsA _ _ _ _ _ _ _; first | refine O_ev WideF.wide rfl (Ev_pure rfl) rfl rfl ?_ | (show opsA _ _ _ _ (⟨_, .fieldAddr _ _ _, _, _, _, _⟩ :: _) _ _; refine O_ev WideF.wide rfl (Ev_fieldAddr rfl rfl rfl) rfl rfl ?_)))
  exact End_p (Ret1 rfl rfl) rfl
end Go.Proofs.Ythniohgeojenaaa
