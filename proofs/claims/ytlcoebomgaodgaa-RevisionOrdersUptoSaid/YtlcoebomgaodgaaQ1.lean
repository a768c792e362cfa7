/-
  Revisions as data; CheckRev, Check (program and law), cut, one, Fresh.
-/
import Derived.Test.YtlcoebomgaodgaaC1
import Derived.Test.YtlcoebomgaodgaaE1
namespace Go.Proofs.Ytlcoebomgaodgaa
open Go
set_option linter.unusedVariables false
set_option linter.unusedSimpArgs false
structure Rev where
  id : Int
  author : List UInt8
  time : Int
  deriving DecidableEq
def rrow (r : Rev) : List Value := [.int .i64 r.id, sv r.author, .int .i64 r.time]
theorem rrow_one (l : List Rev) : ∀ cs ∈ l.map rrow, ∀ u ∈ cs, u.oneCell' = true := by
  intro cs hcs u hu
  obtain ⟨p, _, rfl⟩ := List.mem_map.1 hcs
  simp [rrow] at hu
  rcases hu with rfl | rfl | rfl <;> rfl
def irow (x : Int) : List Value := [.int .i64 x]
theorem irow_one (l : List Int) : ∀ cs ∈ l.map irow, ∀ u ∈ cs, u.oneCell' = true := by
  intro cs hcs u hu
  obtain ⟨p, _, rfl⟩ := List.mem_map.1 hcs
  simp [irow] at hu
  subst hu; rfl
/-- increasing -/
abbrev Inc (l : List Int) : Prop := l.Pairwise (· < ·)
theorem Inc.lt {l : List Int} (hs : Inc l) {i j : Nat} {a b : Int} (hi : l[i]? = some a) (hj : l[j]? = some b) (h : i < j) : a < b := by
  obtain ⟨h1, rfl⟩ := List.getElem?_eq_some_iff.1 hi
  obtain ⟨h2, rfl⟩ := List.getElem?_eq_some_iff.1 hj
  exact List.pairwise_iff_getElem.1 hs i j h1 h2 h
theorem Inc.le {l : List Int} (hs : Inc l) {i j : Nat} {a b : Int} (hi : l[i]? = some a) (hj : l[j]? = some b) (h : i ≤ j) : a ≤ b := by
  rcases Nat.lt_or_eq_of_le h with h | rfl
  · exact Int.le_of_lt (hs.lt hi hj h)
  · rw [hi] at hj; cases hj; exact Int.le_refl _
/-- revisions that were handed back -/
def RevsIs (l : List Rev) (v : Value) (H : Hp) (I : Own) : Prop := (∃ a n c, v = .slice a n c ∧ HRow H a n c 3 (l.map rrow)) ∧ I = []
def IntsIs (l : List Int) (v : Value) (H : Hp) (I : Own) : Prop := (∃ a n c, v = .slice a n c ∧ HRow H a n c 1 (l.map irow)) ∧ I = []
instance (l : List UInt8) : Decidable (valid l) := by unfold valid; infer_instance
/-! ### the error of a revision, and of a table -/
def chkRev (r : Rev) : Int := if r.id < 1 ∨ 1073741824 < r.id then 18 else if r.author = [] then 11 else if 40 < r.author.length then 10 else if ¬ valid r.author then 12 else if r.time < 0 ∨ 1099511627776 < r.time then 40 else 0
def gap : Option Int → Rev → Int
  | some q, r => if r.id = q then 7 else if r.id < q then 6 else 0
  | none, _ => 0
def chkL : Option Int → List Rev → Int
  | _, [] => 0
  | p, r :: t => if chkRev r ≠ 0 then chkRev r else if gap p r ≠ 0 then gap p r else chkL (some r.id) t
def chk (l : List Rev) : Int := if 256 < l.length then 9 else chkL none l
theorem gap_zero {p : Option Int} {r : Rev} : gap p r = 0 ↔ ∀ q, p = some q → q < r.id := by
  cases p with
  | none => simp [gap]
  | some q =>
    have hd : gap (some q) r = if r.id = q then 7 else if r.id < q then 6 else 0 := rfl
    rw [hd]
    constructor
    · intro h q' hq
      cases hq
      by_cases h1 : r.id = q
      · rw [if_pos h1] at h; cases h
      · rw [if_neg h1] at h
        by_cases h2 : r.id < q
        · rw [if_pos h2] at h; cases h
        · omega
    · intro h
      have := h q rfl
      rw [if_neg (by omega), if_neg (by omega)]
theorem chkL_zero : ∀ (l : List Rev) (p : Option Int), chkL p l = 0 ↔ (∀ r ∈ l, chkRev r = 0) ∧ Inc (l.map Rev.id) ∧ ∀ q, p = some q → ∀ r ∈ l, q < r.id
  | [], p => by simp [chkL]
  | r :: t, p => by
    have ih := chkL_zero t (some r.id)
    rw [chkL]
    by_cases h0 : chkRev r = 0
    · rw [if_neg (by simpa using h0)]
      by_cases h1 : gap p r = 0
      · rw [if_neg (by simpa using h1), ih]
        have hg := gap_zero.1 h1
        constructor
        · rintro ⟨a, b, c⟩
          have c := c r.id rfl
          refine ⟨fun x hx => ?_, ?_, fun q hq x hx => ?_⟩
          · rcases List.mem_cons.1 hx with rfl | hx
            · exact h0
            · exact a x hx
          · rw [List.map_cons, Inc, List.pairwise_cons]
            exact ⟨fun y hy => by obtain ⟨x, hx, rfl⟩ := List.mem_map.1 hy; exact c x hx, b⟩
          · rcases List.mem_cons.1 hx with rfl | hx
            · exact hg q hq
            · exact Int.lt_trans (hg q hq) (c x hx)
        · rintro ⟨a, b, c⟩
          rw [List.map_cons, Inc, List.pairwise_cons] at b
          exact ⟨fun x hx => a x (List.mem_cons_of_mem _ hx), b.2, fun q hq x hx => by cases hq; exact b.1 _ (List.mem_map_of_mem hx)⟩
      · rw [if_pos h1]
        constructor
        · intro h; exact absurd h h1
        · rintro ⟨_, _, h⟩; exact absurd (gap_zero.2 fun q hq => h q hq r (by simp)) h1
    · rw [if_pos h0]
      constructor
      · intro h; exact absurd h h0
      · rintro ⟨h, _⟩; exact absurd (h r (by simp)) h0
theorem chk_zero {l : List Rev} : chk l = 0 ↔ l.length ≤ 256 ∧ (∀ r ∈ l, chkRev r = 0) ∧ Inc (l.map Rev.id) := by
  unfold chk
  by_cases h : 256 < l.length
  · rw [if_pos h]
    constructor
    · intro h; cases h
    · rintro ⟨h1, _⟩; omega
  · rw [if_neg h, chkL_zero]
    constructor
    · rintro ⟨a, b, _⟩; exact ⟨by omega, a, b⟩
    · rintro ⟨_, a, b⟩; exact ⟨a, b, fun q h => by cases h⟩
theorem chkRev_b (r : Rev) : 0 ≤ chkRev r ∧ chkRev r ≤ 40 := by unfold chkRev; (repeat' split) <;> omega
theorem gap_b (p : Option Int) (r : Rev) : 0 ≤ gap p r ∧ gap p r ≤ 7 := by
  cases p with
  | none => simp [gap]
  | some q => unfold gap; (repeat' split) <;> omega
theorem chkL_b : ∀ (l : List Rev) (p : Option Int), 0 ≤ chkL p l ∧ chkL p l ≤ 40
  | [], p => by simp [chkL]
  | r :: t, p => by
    have ih := chkL_b t (some r.id)
    have h1 := chkRev_b r
    have h2 := gap_b p r
    rw [chkL]
    (repeat' split) <;> omega
theorem chk_b (l : List Rev) : 0 ≤ chk l ∧ chk l ≤ 40 := by
  unfold chk; split
  · omega
  · exact chkL_b l none
theorem chkRev_id {r : Rev} (h : chkRev r = 0) : 1 ≤ r.id ∧ r.id ≤ 1073741824 := by
  unfold chkRev at h
  split at h
  · cases h
  · omega
/-! ### what is cut -/
def one60 (r : Rev) : Rev := { r with author := r.author.take 60 }
def cutL (l : List Rev) : List Rev := (l.take 40).map one60
theorem cutL_len (l : List Rev) : (cutL l).length ≤ 40 := by unfold cutL; simp; omega
theorem one60_len (r : Rev) : (one60 r).author.length ≤ 60 := by unfold one60; simp; omega
def cmpI (x y : Int) : Int := if x < y then -1 else if y < x then 1 else 0
theorem cmpI_lt {x y : Int} : cmpI x y < 0 ↔ x < y := by unfold cmpI; split <;> (try split) <;> omega
theorem cmpI_eq {x y : Int} : cmpI x y = 0 ↔ x = y := by unfold cmpI; split <;> (try split) <;> omega
attribute [local irreducible] wpA opsA drJ drQ drE Ef Ev Shift Fn
set_option maxRecDepth 100000 in
theorem cIsNaN_fn {H : Hp} {x : Int} : FnP Try.prog 54 [.int .i64 x] H (.bool false) := by
  refine Fn_of _ _ Try.func54 rfl Try.ntmps54 rfl fun c => ?_
  repeat' (first | refine O_nil ?_ | refine A_seq ?_ | refine A_region ?_ | refine A_ret ?_ | (show opsA _ _ _ _ _ _ _; refine O_ev WideF.wide rfl (Ev_pure rfl) rfl rfl ?_))
  (refine End_p (Ret1 rfl rfl) ?_)
  simp
set_option maxRecDepth 100000 in
theorem Compare_fn {H : Hp} {x y : Int} : FnP Try.prog 39 [.int .i64 x, .int .i64 y] H (.int .i64 (cmpI x y)) := by
  refine Fn_of _ _ Try.func39 rfl Try.ntmps39 rfl fun c => ?_
  repeat' (first | (refine O_ef rfl (Ef_callp WideF.wide cIsNaN_fn ⟨rfl, trivial⟩ rfl ?_)) | refine O_nil ?_ | refine A_seq ?_ | refine A_region ?_ | refine A_skip ?_ | refine A_ret ?_ | (show opsA _ _ _ _ _ _ _; refine O_ev WideF.wide rfl (Ev_pure rfl) rfl rfl ?_) | (show wpA _ _ _ (.cond _ _ _) _ _ _ _; first | (refine A_if rfl (fun h => ?_) (fun h => ?_) <;> try (exfalso; omega)) | refine A_iffalse rfl ?_))
  all_goals
    (refine End_p (Ret1 rfl rfl) ?_)
    unfold cmpI
    first | rw [if_pos (by omega)] | rw [if_neg (by omega), if_pos (by omega)] | rw [if_neg (by omega), if_neg (by omega)]
set_option maxRecDepth 100000 in
theorem CheckRev_fn {H : Hp} {r : Rev} : FnP Try.prog 14 [.agg (rrow r).toArray] H (.int .i64 (chkRev r)) := by
  have hv := fun Hx (h : r.author.length ≤ 40) => Valid_fn Hx r.author (by omega)
  unfold rrow
  refine Fn_of _ _ Try.func14 rfl Try.ntmps14 rfl fun c => ?_
  repeat' (first | (refine O_ef rfl (Ef_callp WideF.wide (hv _ (by omega)) ⟨rfl, trivial⟩ rfl ?_)) | refine O_nil ?_ | refine A_seq ?_ | refine A_region ?_ | refine A_skip ?_ | refine A_ret ?_ | refine A_block ?_ | (show opsA _ _ _ _ _ _ _; first | (refine O_split rfl rfl (fun h => ?_) (fun h => ?_) <;> try (exfalso; omega)) | refine O_ev WideF.wide rfl (Ev_pure rfl) rfl rfl ?_ | (show opsA _ _ _ _ (⟨_, .load _ _, _, _, _, _⟩ :: _) _ _; refine O_ev WideF.wide rfl (Ev_loadB1 (i := 0) rfl rfl rfl) rfl rfl ?_) | (show opsA _ _ _ _ (⟨_, .fieldAddr _ _ _, _, _, _, _⟩ :: _) _ _; refine O_ev WideF.wide rfl (Ev_fieldAddr rfl rfl rfl) rfl rfl ?_) | (show opsA _ _ _ _ (⟨_, .call _, _, _, _, _⟩ :: _) _ _; refine O_ev WideF.wide rfl (Ev_slen rfl) rfl rfl ?_) | (show opsA _ _ _ _ (⟨_, .binOp _ _ _ _ _, _, _, _, _⟩ :: _) _ _; refine O_ev WideF.wide rfl (Ev_seql rfl rfl) rfl rfl ?_) | (show opsA _ _ _ _ (⟨_, .unOp _ _ _, _, _, _, _⟩ :: _) _ _; refine O_ev WideF.wide rfl (Ev_not rfl) rfl rfl ?_) | (show opsA _ _ _ _ (⟨_, .box _ _, _, _, _, _⟩ :: _) _ _; (refine O_ef rfl (Ef_boxa WideF.wide rfl rfl ?_); intro b)) | refine O_skip WideF.wide rfl rfl rfl ?_) | (show wpA _ _ _ (.cond _ _ _) _ _ _ _; first | (refine A_if rfl (fun h => ?_) (fun h => ?_) <;> try (exfalso; omega)) | refine A_iftrue rfl ?_))
  all_goals
    (refine End_p (Ret1 rfl rfl) ?_)
    unfold chkRev
    first
      | rfl
      | (repeat' split) <;> first | rfl | (exfalso; first | omega | contradiction | simp_all)
set_option maxRecDepth 100000 in
theorem lcheckRev_fn {H : Hp} {r : Rev} : FnP Try.prog 15 [.agg (rrow r).toArray] H (.int .i64 (chkRev r)) := by
  have hv := fun Hx (h : r.author.length ≤ 40) => Valid_fn Hx r.author (by omega)
  unfold rrow
  refine Fn_of _ _ Try.func15 rfl Try.ntmps15 rfl fun c => ?_
  repeat' (first | (refine O_ef rfl (Ef_callp WideF.wide (hv _ (by omega)) ⟨rfl, trivial⟩ rfl ?_)) | refine O_nil ?_ | refine A_seq ?_ | refine A_region ?_ | refine A_skip ?_ | refine A_ret ?_ | refine A_block ?_ | (show opsA _ _ _ _ _ _ _; first | (refine O_split rfl rfl (fun h => ?_) (fun h => ?_) <;> try (exfalso; omega)) | refine O_ev WideF.wide rfl (Ev_pure rfl) rfl rfl ?_ | (show opsA _ _ _ _ (⟨_, .load _ _, _, _, _, _⟩ :: _) _ _; refine O_ev WideF.wide rfl (Ev_loadB1 (i := 0) rfl rfl rfl) rfl rfl ?_) | (show opsA _ _ _ _ (⟨_, .fieldAddr _ _ _, _, _, _, _⟩ :: _) _ _; refine O_ev WideF.wide rfl (Ev_fieldAddr rfl rfl rfl) rfl rfl ?_) | (show opsA _ _ _ _ (⟨_, .call _, _, _, _, _⟩ :: _) _ _; refine O_ev WideF.wide rfl (Ev_slen rfl) rfl rfl ?_) | (show opsA _ _ _ _ (⟨_, .binOp _ _ _ _ _, _, _, _, _⟩ :: _) _ _; refine O_ev WideF.wide rfl (Ev_seql rfl rfl) rfl rfl ?_) | (show opsA _ _ _ _ (⟨_, .unOp _ _ _, _, _, _, _⟩ :: _) _ _; refine O_ev WideF.wide rfl (Ev_not rfl) rfl rfl ?_) | (show opsA _ _ _ _ (⟨_, .box _ _, _, _, _, _⟩ :: _) _ _; (refine O_ef rfl (Ef_boxa WideF.wide rfl rfl ?_); intro b)) | refine O_skip WideF.wide rfl rfl rfl ?_) | (show wpA _ _ _ (.cond _ _ _) _ _ _ _; first | (refine A_if rfl (fun h => ?_) (fun h => ?_) <;> try (exfalso; omega)) | refine A_iftrue rfl ?_))
  all_goals
    (refine End_p (Ret1 rfl rfl) ?_)
    unfold chkRev
    first
      | rfl
      | (repeat' split) <;> first | rfl | (exfalso; first | omega | contradiction | simp_all)
end Go.Proofs.Ytlcoebomgaodgaa
