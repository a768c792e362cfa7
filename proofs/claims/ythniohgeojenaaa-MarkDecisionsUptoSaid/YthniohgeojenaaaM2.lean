/-
  cmp, slices.BinarySearch, slices.BinarySearchFunc at properties and deletions (printed by genM2.py).
-/
import Derived.Test.YthniohgeojenaaaM1
namespace Go.Proofs.Ythniohgeojenaaa
open Go
set_option linter.unusedVariables false
set_option linter.unusedSimpArgs false
section
variable {P : Program} {e : Env} {H : Hp} {R : Own} {dst : Option Tmp} {ty : TypeId} {pos : String} {after : Array Edge} {g : Option (Nat × Bool)} {x y z : Operand} {t t2 : TypeId}
theorem Ev_half {k k2 : IntKind} {m : Int} (hx : e.eval x = some (.int k m)) (hy : e.eval y = some (.int k2 1)) : Ev P ⟨dst, .binOp .shr t x y t2, ty, pos, after, g⟩ e H R (.int k (m / 2)) := by
  have h := Ev_shr (P := P) (H := H) (R := R) (dst := dst) (ty := ty) (pos := pos) (after := after) (g := g) (t := t) (t2 := t2) hx hy (by decide) (by cases k <;> decide)
  simpa using h
end
/-- increasing -/
abbrev Inc (l : List Int) : Prop := l.Pairwise (· < ·)
theorem Inc.lt {l : List Int} (hs : Inc l) {i j : Nat} {a b : Int} (hi : l[i]? = some a) (hj : l[j]? = some b) (h : i < j) : a < b := by
  obtain ⟨h1, rfl⟩ := List.getElem?_eq_some_iff.1 hi
  obtain ⟨h2, rfl⟩ := List.getElem?_eq_some_iff.1 hj
  exact List.pairwise_iff_getElem.1 hs i j h1 h2 h
theorem Inc.le {l : List Int} (hs : Inc l) {i j : Nat} {a b : Int} (hi : l[i]? = some a) (hj : l[j]? = some b) (h : i ≤ j) : a ≤ b := by
  rcases Nat.lt_or_eq_of_le h with h | rfl
  · exact Int.le_of_lt (hs.lt hi hj h)
  · rw [hi] at hj; cases hj; exact Int.le_refl _
/-- where a number stands in an increasing list, or would stand -/
structure Spot (l : List Int) (x : Int) (i : Nat) : Prop where
  le : i ≤ l.length
  lo : ∀ j a, j < i → l[j]? = some a → a < x
  hi : ∀ j a, i ≤ j → l[j]? = some a → x ≤ a
theorem Spot.mem {l : List Int} (hs : Inc l) {x : Int} {i : Nat} (h : Spot l x i) : x ∈ l ↔ l[i]? = some x := by
  constructor
  · intro hm
    obtain ⟨j, hj⟩ := List.mem_iff_getElem?.1 hm
    rcases Nat.lt_trichotomy j i with h1 | h1 | h1
    · have := h.lo j x h1 hj; omega
    · subst h1; exact hj
    · have hjl := (List.getElem?_eq_some_iff.1 hj).1
      have hil : i < l.length := by omega
      have h2 := h.hi i l[i] (Nat.le_refl _) (by simp [hil])
      have h3 := hs.lt (i := i) (j := j) (a := l[i]) (b := x) (by simp [hil]) hj h1
      omega
  · exact fun h => List.mem_of_getElem? h
theorem Spot.not {l : List Int} {x : Int} {i : Nat} (h : Spot l x i) (hn : l.length ≤ i) : x ∉ l := fun hm => by
  obtain ⟨j, hj⟩ := List.mem_iff_getElem?.1 hm
  have hjl := (List.getElem?_eq_some_iff.1 hj).1
  have := h.lo j x (by omega) hj
  omega
def irow (x : Int) : List Value := [.int .i64 x]
def cmpI (x y : Int) : Int := if x < y then -1 else if y < x then 1 else 0
theorem cmpI_lt {x y : Int} : cmpI x y < 0 ↔ x < y := by unfold cmpI; split <;> (try split) <;> omega
theorem cmpI_eq {x y : Int} : cmpI x y = 0 ↔ x = y := by unfold cmpI; split <;> (try split) <;> omega
attribute [local irreducible] wpA opsA drJ drQ drE Ef Ev Shift Fn
set_option maxRecDepth 100000 in
theorem cIsNaN_fn {H : Hp} {x : Int} : FnP Try.prog 88 [.int .i64 x] H (.bool false) := by
  refine Fn_of _ _ Try.func88 rfl Try.ntmps88 rfl fun c => ?_
  repeat' (first | refine O_nil ?_ | refine A_seq ?_ | refine A_region ?_ | refine A_ret ?_ | (show opsA _ _ _ _ _ _ _; refine O_ev WideF.wide rfl (Ev_pure rfl) rfl rfl ?_))
  (refine End_p (Ret1 rfl rfl) ?_)
  simp
set_option maxRecDepth 100000 in
theorem sIsNaN_fn {H : Hp} {x : Int} : FnP Try.prog 101 [.int .i64 x] H (.bool false) := by
  refine Fn_of _ _ Try.func101 rfl Try.ntmps101 rfl fun c => ?_
  repeat' (first | refine O_nil ?_ | refine A_seq ?_ | refine A_region ?_ | refine A_ret ?_ | (show opsA _ _ _ _ _ _ _; refine O_ev WideF.wide rfl (Ev_pure rfl) rfl rfl ?_))
  (refine End_p (Ret1 rfl rfl) ?_)
  simp
set_option maxRecDepth 100000 in
theorem Compare_fn {H : Hp} {x y : Int} : FnP Try.prog 64 [.int .i64 x, .int .i64 y] H (.int .i64 (cmpI x y)) := by
  refine Fn_of _ _ Try.func64 rfl Try.ntmps64 rfl fun c => ?_
  repeat' (first | (refine O_ef rfl (Ef_callp WideF.wide cIsNaN_fn ⟨rfl, trivial⟩ rfl ?_)) | refine O_nil ?_ | refine A_seq ?_ | refine A_region ?_ | refine A_skip ?_ | refine A_ret ?_ | (show opsA _ _ _ _ _ _ _; refine O_ev WideF.wide rfl (Ev_pure rfl) rfl rfl ?_) | (show wpA _ _ _ (.cond _ _ _) _ _ _ _; first | (refine A_if rfl (fun h => ?_) (fun h => ?_) <;> try (exfalso; omega)) | refine A_iffalse rfl ?_))
  all_goals
    (refine End_p (Ret1 rfl rfl) ?_)
    unfold cmpI
    first | rw [if_pos (by omega)] | rw [if_neg (by omega), if_pos (by omega)] | rw [if_neg (by omega), if_neg (by omega)]
set_option maxRecDepth 100000 in
theorem Less_fn {H : Hp} {x y : Int} : FnP Try.prog 100 [.int .i64 x, .int .i64 y] H (.bool (decide (x < y))) := by
  refine Fn_of _ _ Try.func100 rfl Try.ntmps100 rfl fun c => ?_
  repeat' (first | (refine O_ef rfl (Ef_callp WideF.wide cIsNaN_fn ⟨rfl, trivial⟩ rfl ?_)) | refine O_nil ?_ | refine A_seq ?_ | refine A_region ?_ | refine A_ret ?_ | (show opsA _ _ _ _ _ _ _; first | refine O_ev WideF.wide rfl (Ev_pure rfl) rfl rfl ?_ | refine O_skip WideF.wide rfl rfl rfl ?_))
  (refine End_p (Ret1 rfl rfl) ?_)
  rfl
set_option maxRecDepth 100000 in
theorem bsInt_fn {H : Hp} {a : Option Addr} {n cq : Nat} {l : List Int} {x : Int} (hx : HRow H a n cq 1 (l.map irow)) (hs : Inc l) (hm : n < 68719476736) :
    Fn Try.prog 82 [.slice a n cq, .int .i64 x] H [] fun v H' I' => (∃ i : Nat, Spot l x i ∧ v = .tuple [.int .i64 i, .bool (decide (x ∈ l))].toArray) ∧ H' = H ∧ I' = [] := by
  have e1 : l.length = n := by have := hx.len; simpa using this
  refine Fn_of _ _ Try.func82 rfl Try.ntmps82 rfl fun c => ?_
  repeat' (first | refine O_nil ?_ | refine A_seq ?_ | refine A_region ?_ | refine A_block ?_ | (show opsA _ _ _ _ _ _ _; first | refine O_ev WideF.wide rfl (Ev_pure rfl) rfl rfl ?_ | (show opsA _ _ _ _ (⟨_, .call _, _, _, _, _⟩ :: _) _ _; refine O_ev WideF.wide rfl (Ev_llen rfl) rfl rfl ?_)))
  refine A_loopu (fun m s => ∃ (i j : Nat), m = j - i ∧ i ≤ j ∧ j ≤ n ∧ (∀ q b, q < i → l[q]? = some b → b < x) ∧ (∀ q b, j ≤ q → l[q]? = some b → x ≤ b) ∧ s = ⟨54, [(0, .slice a n cq), (1, .int .i64 x), (6, .int .i64 n), (7, .int .i64 i), (8, .int .i64 j)], H, [], [], []⟩) ?_ ?_
  · exact Shift.to ⟨_, 0, n, rfl, by omega, by omega, fun q b hq => absurd hq (by omega), fun q b hq hb => absurd (List.getElem?_eq_some_iff.1 hb).1 (by simp; omega), rfl⟩ ⟨rfl, rfl, rfl, ⟨rfl, rfl, rfl, rfl, rfl, trivial⟩, Own.sub_nil _⟩
  · rintro m s ⟨i, j, rfl, hij, hj, h1, h2, rfl⟩
    by_cases hlt : i < j
    · obtain ⟨md, hh⟩ : ∃ md : Nat, md = (i + j) / 2 := ⟨_, rfl⟩
      have hI : ((i : Int) + j) / 2 = (md : Nat) := by omega
      obtain ⟨b', o, p, rfl, hp, hc⟩ := hx.atm md (by omega)
      have hpk : l[md]? = some ( p) := hp
      unfold irow at hc
      repeat' (first | (refine O_ev WideF.wide rfl (Ev_conv (k2 := .u64) rfl (wu64 (by omega))) rfl rfl ?_) | (refine O_ev WideF.wide rfl (Ev_half rfl rfl) rfl rfl ?_; rw [hI]) | (refine O_ev WideF.wide rfl (Ev_loadH1 rfl (hc 0 _ rfl)) rfl rfl ?_) | (refine O_ef rfl (Ef_callp WideF.wide Less_fn ⟨rfl, rfl, trivial⟩ rfl ?_)) | refine O_nil ?_ | refine A_seq ?_ | refine A_region ?_ | refine A_skip ?_ | refine A_block ?_ | (show opsA _ _ _ _ _ _ _; first | refine O_ev WideF.wide rfl (Ev_pure rfl) rfl rfl ?_ | (show opsA _ _ _ _ (⟨_, .indexAddr _ _ _, _, _, _, _⟩ :: _) _ _; refine O_ev WideF.wide rfl (Ev_indexAddr rfl rfl (by omega) (by omega)) rfl rfl ?_) | (show opsA _ _ _ _ (⟨_, .binOp _ _ _ _ _, _, _, _, _⟩ :: _) _ _; refine O_ev WideF.wide rfl (Ev_add rfl rfl (wi64 (by omega))) rfl rfl ?_) | (show opsA _ _ _ _ (⟨_, .convert _ _ _, _, _, _, _⟩ :: _) _ _; refine O_ev WideF.wide rfl (Ev_conv (k2 := .i64) rfl (wi64 (by omega))) rfl rfl ?_)) | (show wpA _ _ _ (.cond _ _ _) _ _ _ _; (refine A_if rfl (fun h => ?_) (fun h => ?_) <;> try (exfalso; omega))))
      · refine Shift.to ⟨_, ?_, md + 1, j, rfl, by omega, by omega, ?_, h2, rfl⟩ ⟨rfl, rfl, rfl, ⟨rfl, rfl, rfl, rfl, rfl, trivial⟩, Own.sub_nil _⟩
        · omega
        · intro q b hq hb
          have hle := hs.le hb hpk (by omega)
          have hlt2 :  p < x := by assumption
          exact Int.lt_of_le_of_lt hle hlt2
      · refine Shift.to ⟨_, ?_, i, md, rfl, by omega, by omega, h1, ?_, rfl⟩ ⟨rfl, rfl, rfl, ⟨rfl, rfl, rfl, rfl, rfl, trivial⟩, Own.sub_nil _⟩
        · omega
        · intro q b hq hb
          have hle := hs.le hpk hb hq
          have hge : x ≤  p := by omega
          exact Int.le_trans hge hle
    · have hji : i = j := by omega
      subst hji
      have hsp : Spot l x i := ⟨by first | omega | (simp; omega), h1, h2⟩
      by_cases hin : i < n
      · obtain ⟨b', o, p, rfl, hp, hc⟩ := hx.atm i hin
        have hpk : l[i]? = some ( p) := hp
        have hmem := hsp.mem hs
        rw [hpk] at hmem
        unfold irow at hc
        repeat' (first | (refine O_ev WideF.wide rfl (Ev_loadH1 rfl (hc 0 _ rfl)) rfl rfl ?_) | (refine O_ef rfl (Ef_callp WideF.wide sIsNaN_fn ⟨rfl, trivial⟩ rfl ?_)) | refine O_nil ?_ | refine A_seq ?_ | refine A_region ?_ | refine A_ret ?_ | (show opsA _ _ _ _ _ _ _; first | (refine O_split rfl rfl (fun h => ?_) (fun h => ?_) <;> try (exfalso; omega)) | refine O_ev WideF.wide rfl (Ev_pure rfl) rfl rfl ?_ | (show opsA _ _ _ _ (⟨_, .indexAddr _ _ _, _, _, _, _⟩ :: _) _ _; refine O_ev WideF.wide rfl (Ev_indexAddr rfl rfl (by omega) (by omega)) rfl rfl ?_) | refine O_skip WideF.wide rfl rfl rfl ?_) | (show wpA _ _ _ (.exit _) _ _ _ _; refine A_exit rfl ?_) | (show wpA _ _ _ (.cond _ _ _) _ _ _ _; (refine A_if rfl (fun h => ?_) (fun h => ?_) <;> try (exfalso; omega))))
        all_goals (
          refine End_e (Ret2 rfl rfl rfl) ⟨⟨i, hsp, ?_⟩, rfl, rfl⟩
          refine congrArg (fun b => Value.tuple [.int .i64 (i : Int), .bool b].toArray) ?_
          rw [Bool.eq_iff_iff]
          simp only [decide_eq_true_eq, hmem, Option.some.injEq, cmpI_eq]
          try simp
          try omega)
      · have hno := hsp.not (by first | omega | (simp; omega))
        repeat' (first | refine O_nil ?_ | refine A_seq ?_ | refine A_region ?_ | refine A_ret ?_ | (show opsA _ _ _ _ _ _ _; first | (refine O_split rfl rfl (fun h => ?_) (fun h => ?_) <;> try (exfalso; omega)) | refine O_ev WideF.wide rfl (Ev_pure rfl) rfl rfl ?_ | refine O_skip WideF.wide rfl rfl rfl ?_) | (show wpA _ _ _ (.exit _) _ _ _ _; refine A_exit rfl ?_) | (show wpA _ _ _ (.cond _ _ _) _ _ _ _; (refine A_if rfl (fun h => ?_) (fun h => ?_) <;> try (exfalso; omega))))
        refine End_e (Ret2 rfl rfl rfl) ⟨⟨i, hsp, ?_⟩, rfl, rfl⟩
        first | rw [decide_eq_false hno] | (have : x ∉ l := hno; simp [this])
set_option maxRecDepth 100000 in
theorem cmpPrp_fn {H : Hp} {p : Prp} {x : Int} : Fn Try.prog 94 [.agg (prow p).toArray, .int .i64 x] H [] fun v H' I' => v = .int .i64 (cmpI p.key x) ∧ H' = H ∧ I' = [] := by
  unfold prow
  refine Fn_of _ _ Try.func94 rfl Try.ntmps94 rfl fun c => ?_
  repeat' (first | (refine O_ef rfl (Ef_callp WideF.wide (Compare_fn) ⟨rfl, rfl, trivial⟩ rfl ?_)) | refine O_nil ?_ | refine A_seq ?_ | refine A_region ?_ | refine A_ret ?_ | (show opsA _ _ _ _ _ _ _; first | refine O_ev WideF.wide rfl (Ev_pure rfl) rfl rfl ?_ | (show opsA _ _ _ _ (⟨_, .load _ _, _, _, _, _⟩ :: _) _ _; refine O_ev WideF.wide rfl (Ev_loadB1 (i := 0) rfl rfl rfl) rfl rfl ?_) | (show opsA _ _ _ _ (⟨_, .fieldAddr _ _ _, _, _, _, _⟩ :: _) _ _; refine O_ev WideF.wide rfl (Ev_fieldAddr rfl rfl rfl) rfl rfl ?_) | (show opsA _ _ _ _ (⟨_, .box _ _, _, _, _, _⟩ :: _) _ _; (refine O_ef rfl (Ef_boxa WideF.wide rfl rfl ?_); intro b))))
  exact End_p (Ret1 rfl rfl) rfl
set_option maxRecDepth 100000 in
theorem bsPrp_fn {H : Hp} {a : Option Addr} {n cq : Nat} {l : List Prp} {x : Int} (hx : HRow H a n cq 2 (l.map prow)) (hs : Inc (l.map Prp.key)) (hm : n < 68719476736) :
    Fn Try.prog 93 [.slice a n cq, .int .i64 x, .func (.func 94) #[] #[]] H [] fun v H' I' => (∃ i : Nat, Spot (l.map Prp.key) x i ∧ v = .tuple [.int .i64 i, .bool (decide (x ∈ (l.map Prp.key)))].toArray) ∧ H' = H ∧ I' = [] := by
  have e1 : l.length = n := by have := hx.len; simpa using this
  refine Fn_of _ _ Try.func93 rfl Try.ntmps93 rfl fun c => ?_
  repeat' (first | refine O_nil ?_ | refine A_seq ?_ | refine A_region ?_ | refine A_block ?_ | (show opsA _ _ _ _ _ _ _; first | refine O_ev WideF.wide rfl (Ev_pure rfl) rfl rfl ?_ | (show opsA _ _ _ _ (⟨_, .call _, _, _, _, _⟩ :: _) _ _; refine O_ev WideF.wide rfl (Ev_llen rfl) rfl rfl ?_)))
  refine A_loopu (fun m s => ∃ (i j : Nat), m = j - i ∧ i ≤ j ∧ j ≤ n ∧ (∀ q b, q < i → (l.map Prp.key)[q]? = some b → b < x) ∧ (∀ q b, j ≤ q → (l.map Prp.key)[q]? = some b → x ≤ b) ∧ s = ⟨49, [(0, .slice a n cq), (1, .int .i64 x), (2, .func (.func 94) #[] #[]), (8, .int .i64 n), (9, .int .i64 i), (10, .int .i64 j)], H, [], [], []⟩) ?_ ?_
  · exact Shift.to ⟨_, 0, n, rfl, by omega, by omega, fun q b hq => absurd hq (by omega), fun q b hq hb => absurd (List.getElem?_eq_some_iff.1 hb).1 (by simp; omega), rfl⟩ ⟨rfl, rfl, rfl, ⟨rfl, rfl, rfl, rfl, rfl, rfl, trivial⟩, Own.sub_nil _⟩
  · rintro m s ⟨i, j, rfl, hij, hj, h1, h2, rfl⟩
    by_cases hlt : i < j
    · obtain ⟨md, hh⟩ : ∃ md : Nat, md = (i + j) / 2 := ⟨_, rfl⟩
      have hI : ((i : Int) + j) / 2 = (md : Nat) := by omega
      obtain ⟨b', o, p, rfl, hp, hc⟩ := hx.atm md (by omega)
      have hpk : (l.map Prp.key)[md]? = some (Prp.key p) := by rw [List.getElem?_map, hp]; rfl
      unfold prow at hc
      repeat' (first | (refine O_ev WideF.wide rfl (Ev_conv (k2 := .u64) rfl (wu64 (by omega))) rfl rfl ?_) | (refine O_ev WideF.wide rfl (Ev_half rfl rfl) rfl rfl ?_; rw [hI]) | (refine O_ev WideF.wide rfl (Ev_loadH rfl hc rfl) rfl rfl ?_) | (refine O_ef rfl (Ef_callvp WideF.wide (f := 94) (cmpPrp_fn (p := p)) rfl ⟨rfl, rfl, trivial⟩ rfl ?_)) | refine O_nil ?_ | refine A_seq ?_ | refine A_region ?_ | refine A_skip ?_ | refine A_block ?_ | (show opsA _ _ _ _ _ _ _; first | refine O_ev WideF.wide rfl (Ev_pure rfl) rfl rfl ?_ | (show opsA _ _ _ _ (⟨_, .indexAddr _ _ _, _, _, _, _⟩ :: _) _ _; refine O_ev WideF.wide rfl (Ev_indexAddr rfl rfl (by omega) (by omega)) rfl rfl ?_) | (show opsA _ _ _ _ (⟨_, .binOp _ _ _ _ _, _, _, _, _⟩ :: _) _ _; refine O_ev WideF.wide rfl (Ev_add rfl rfl (wi64 (by omega))) rfl rfl ?_) | (show opsA _ _ _ _ (⟨_, .convert _ _ _, _, _, _, _⟩ :: _) _ _; refine O_ev WideF.wide rfl (Ev_conv (k2 := .i64) rfl (wi64 (by omega))) rfl rfl ?_)) | (show wpA _ _ _ (.cond _ _ _) _ _ _ _; (refine A_if rfl (fun h => ?_) (fun h => ?_) <;> try (exfalso; omega))))
      · refine Shift.to ⟨_, ?_, md + 1, j, rfl, by omega, by omega, ?_, h2, rfl⟩ ⟨rfl, rfl, rfl, ⟨rfl, rfl, rfl, rfl, rfl, rfl, trivial⟩, Own.sub_nil _⟩
        · omega
        · intro q b hq hb
          have hle := hs.le hb hpk (by omega)
          have hlt2 : Prp.key p < x := cmpI_lt.1 (by assumption)
          exact Int.lt_of_le_of_lt hle hlt2
      · refine Shift.to ⟨_, ?_, i, md, rfl, by omega, by omega, h1, ?_, rfl⟩ ⟨rfl, rfl, rfl, ⟨rfl, rfl, rfl, rfl, rfl, rfl, trivial⟩, Own.sub_nil _⟩
        · omega
        · intro q b hq hb
          have hle := hs.le hpk hb hq
          have hge : x ≤ Prp.key p := by have hng : ¬ (cmpI (Prp.key p) x < 0) := (by assumption); rw [cmpI_lt] at hng; omega
          exact Int.le_trans hge hle
    · have hji : i = j := by omega
      subst hji
      have hsp : Spot (l.map Prp.key) x i := ⟨by first | omega | (simp; omega), h1, h2⟩
      by_cases hin : i < n
      · obtain ⟨b', o, p, rfl, hp, hc⟩ := hx.atm i hin
        have hpk : (l.map Prp.key)[i]? = some (Prp.key p) := by rw [List.getElem?_map, hp]; rfl
        have hmem := hsp.mem hs
        rw [hpk] at hmem
        unfold prow at hc
        repeat' (first | (refine O_ev WideF.wide rfl (Ev_loadH rfl hc rfl) rfl rfl ?_) | (refine O_ef rfl (Ef_callvp WideF.wide (f := 94) (cmpPrp_fn (p := p)) rfl ⟨rfl, rfl, trivial⟩ rfl ?_)) | refine O_nil ?_ | refine A_seq ?_ | refine A_region ?_ | refine A_ret ?_ | (show opsA _ _ _ _ _ _ _; first | (refine O_split rfl rfl (fun h => ?_) (fun h => ?_) <;> try (exfalso; omega)) | refine O_ev WideF.wide rfl (Ev_pure rfl) rfl rfl ?_ | (show opsA _ _ _ _ (⟨_, .indexAddr _ _ _, _, _, _, _⟩ :: _) _ _; refine O_ev WideF.wide rfl (Ev_indexAddr rfl rfl (by omega) (by omega)) rfl rfl ?_)) | (show wpA _ _ _ (.exit _) _ _ _ _; refine A_exit rfl ?_) | (show wpA _ _ _ (.cond _ _ _) _ _ _ _; (refine A_if rfl (fun h => ?_) (fun h => ?_) <;> try (exfalso; omega))))
        all_goals (
          refine End_e (Ret2 rfl rfl rfl) ⟨⟨i, hsp, ?_⟩, rfl, rfl⟩
          refine congrArg (fun b => Value.tuple [.int .i64 (i : Int), .bool b].toArray) ?_
          rw [Bool.eq_iff_iff]
          simp only [decide_eq_true_eq, hmem, Option.some.injEq, cmpI_eq]
          try simp
          try omega)
      · have hno := hsp.not (by first | omega | (simp; omega))
        repeat' (first | refine O_nil ?_ | refine A_seq ?_ | refine A_region ?_ | refine A_ret ?_ | (show opsA _ _ _ _ _ _ _; first | (refine O_split rfl rfl (fun h => ?_) (fun h => ?_) <;> try (exfalso; omega)) | refine O_ev WideF.wide rfl (Ev_pure rfl) rfl rfl ?_ | refine O_skip WideF.wide rfl rfl rfl ?_) | (show wpA _ _ _ (.exit _) _ _ _ _; refine A_exit rfl ?_) | (show wpA _ _ _ (.cond _ _ _) _ _ _ _; (refine A_if rfl (fun h => ?_) (fun h => ?_) <;> try (exfalso; omega))))
        refine End_e (Ret2 rfl rfl rfl) ⟨⟨i, hsp, ?_⟩, rfl, rfl⟩
        first | rw [decide_eq_false hno] | (have : x ∉ (l.map Prp.key) := hno; simp [this])
set_option maxRecDepth 100000 in
theorem cmpDele_fn {H : Hp} {p : Dele} {x : Int} : Fn Try.prog 63 [.agg (drow p).toArray, .int .i64 x] H [] fun v H' I' => v = .int .i64 (cmpI p.rev x) ∧ H' = H ∧ I' = [] := by
  unfold drow
  refine Fn_of _ _ Try.func63 rfl Try.ntmps63 rfl fun c => ?_
  repeat' (first | (refine O_ef rfl (Ef_callp WideF.wide (Compare_fn) ⟨rfl, rfl, trivial⟩ rfl ?_)) | refine O_nil ?_ | refine A_seq ?_ | refine A_region ?_ | refine A_ret ?_ | (show opsA _ _ _ _ _ _ _; first | refine O_ev WideF.wide rfl (Ev_pure rfl) rfl rfl ?_ | (show opsA _ _ _ _ (⟨_, .load _ _, _, _, _, _⟩ :: _) _ _; refine O_ev WideF.wide rfl (Ev_loadB1 (i := 0) rfl rfl rfl) rfl rfl ?_) | (show opsA _ _ _ _ (⟨_, .fieldAddr _ _ _, _, _, _, _⟩ :: _) _ _; refine O_ev WideF.wide rfl (Ev_fieldAddr rfl rfl rfl) rfl rfl ?_) | (show opsA _ _ _ _ (⟨_, .box _ _, _, _, _, _⟩ :: _) _ _; (refine O_ef rfl (Ef_boxa WideF.wide rfl rfl ?_); intro b))))
  exact End_p (Ret1 rfl rfl) rfl
set_option maxRecDepth 100000 in
theorem bsDele_fn {H : Hp} {a : Option Addr} {n cq : Nat} {l : List Dele} {x : Int} (hx : HRow H a n cq 2 (l.map drow)) (hs : Inc (l.map Dele.rev)) (hm : n < 68719476736) :
    Fn Try.prog 62 [.slice a n cq, .int .i64 x, .func (.func 63) #[] #[]] H [] fun v H' I' => (∃ i : Nat, Spot (l.map Dele.rev) x i ∧ v = .tuple [.int .i64 i, .bool (decide (x ∈ (l.map Dele.rev)))].toArray) ∧ H' = H ∧ I' = [] := by
  have e1 : l.length = n := by have := hx.len; simpa using this
  refine Fn_of _ _ Try.func62 rfl Try.ntmps62 rfl fun c => ?_
  repeat' (first | refine O_nil ?_ | refine A_seq ?_ | refine A_region ?_ | refine A_block ?_ | (show opsA _ _ _ _ _ _ _; first | refine O_ev WideF.wide rfl (Ev_pure rfl) rfl rfl ?_ | (show opsA _ _ _ _ (⟨_, .call _, _, _, _, _⟩ :: _) _ _; refine O_ev WideF.wide rfl (Ev_llen rfl) rfl rfl ?_)))
  refine A_loopu (fun m s => ∃ (i j : Nat), m = j - i ∧ i ≤ j ∧ j ≤ n ∧ (∀ q b, q < i → (l.map Dele.rev)[q]? = some b → b < x) ∧ (∀ q b, j ≤ q → (l.map Dele.rev)[q]? = some b → x ≤ b) ∧ s = ⟨49, [(0, .slice a n cq), (1, .int .i64 x), (2, .func (.func 63) #[] #[]), (8, .int .i64 n), (9, .int .i64 i), (10, .int .i64 j)], H, [], [], []⟩) ?_ ?_
  · exact Shift.to ⟨_, 0, n, rfl, by omega, by omega, fun q b hq => absurd hq (by omega), fun q b hq hb => absurd (List.getElem?_eq_some_iff.1 hb).1 (by simp; omega), rfl⟩ ⟨rfl, rfl, rfl, ⟨rfl, rfl, rfl, rfl, rfl, rfl, trivial⟩, Own.sub_nil _⟩
  · rintro m s ⟨i, j, rfl, hij, hj, h1, h2, rfl⟩
    by_cases hlt : i < j
    · obtain ⟨md, hh⟩ : ∃ md : Nat, md = (i + j) / 2 := ⟨_, rfl⟩
      have hI : ((i : Int) + j) / 2 = (md : Nat) := by omega
      obtain ⟨b', o, p, rfl, hp, hc⟩ := hx.atm md (by omega)
      have hpk : (l.map Dele.rev)[md]? = some (Dele.rev p) := by rw [List.getElem?_map, hp]; rfl
      unfold drow at hc
      repeat' (first | (refine O_ev WideF.wide rfl (Ev_conv (k2 := .u64) rfl (wu64 (by omega))) rfl rfl ?_) | (refine O_ev WideF.wide rfl (Ev_half rfl rfl) rfl rfl ?_; rw [hI]) | (refine O_ev WideF.wide rfl (Ev_loadH rfl hc rfl) rfl rfl ?_) | (refine O_ef rfl (Ef_callvp WideF.wide (f := 63) (cmpDele_fn (p := p)) rfl ⟨rfl, rfl, trivial⟩ rfl ?_)) | refine O_nil ?_ | refine A_seq ?_ | refine A_region ?_ | refine A_skip ?_ | refine A_block ?_ | (show opsA _ _ _ _ _ _ _; first | refine O_ev WideF.wide rfl (Ev_pure rfl) rfl rfl ?_ | (show opsA _ _ _ _ (⟨_, .indexAddr _ _ _, _, _, _, _⟩ :: _) _ _; refine O_ev WideF.wide rfl (Ev_indexAddr rfl rfl (by omega) (by omega)) rfl rfl ?_) | (show opsA _ _ _ _ (⟨_, .binOp _ _ _ _ _, _, _, _, _⟩ :: _) _ _; refine O_ev WideF.wide rfl (Ev_add rfl rfl (wi64 (by omega))) rfl rfl ?_) | (show opsA _ _ _ _ (⟨_, .convert _ _ _, _, _, _, _⟩ :: _) _ _; refine O_ev WideF.wide rfl (Ev_conv (k2 := .i64) rfl (wi64 (by omega))) rfl rfl ?_)) | (show wpA _ _ _ (.cond _ _ _) _ _ _ _; (refine A_if rfl (fun h => ?_) (fun h => ?_) <;> try (exfalso; omega))))
      · refine Shift.to ⟨_, ?_, md + 1, j, rfl, by omega, by omega, ?_, h2, rfl⟩ ⟨rfl, rfl, rfl, ⟨rfl, rfl, rfl, rfl, rfl, rfl, trivial⟩, Own.sub_nil _⟩
        · omega
        · intro q b hq hb
          have hle := hs.le hb hpk (by omega)
          have hlt2 : Dele.rev p < x := cmpI_lt.1 (by assumption)
          exact Int.lt_of_le_of_lt hle hlt2
      · refine Shift.to ⟨_, ?_, i, md, rfl, by omega, by omega, h1, ?_, rfl⟩ ⟨rfl, rfl, rfl, ⟨rfl, rfl, rfl, rfl, rfl, rfl, trivial⟩, Own.sub_nil _⟩
        · omega
        · intro q b hq hb
          have hle := hs.le hpk hb hq
          have hge : x ≤ Dele.rev p := by have hng : ¬ (cmpI (Dele.rev p) x < 0) := (by assumption); rw [cmpI_lt] at hng; omega
          exact Int.le_trans hge hle
    · have hji : i = j := by omega
      subst hji
      have hsp : Spot (l.map Dele.rev) x i := ⟨by first | omega | (simp; omega), h1, h2⟩
      by_cases hin : i < n
      · obtain ⟨b', o, p, rfl, hp, hc⟩ := hx.atm i hin
        have hpk : (l.map Dele.rev)[i]? = some (Dele.rev p) := by rw [List.getElem?_map, hp]; rfl
        have hmem := hsp.mem hs
        rw [hpk] at hmem
        unfold drow at hc
        repeat' (first | (refine O_ev WideF.wide rfl (Ev_loadH rfl hc rfl) rfl rfl ?_) | (refine O_ef rfl (Ef_callvp WideF.wide (f := 63) (cmpDele_fn (p := p)) rfl ⟨rfl, rfl, trivial⟩ rfl ?_)) | refine O_nil ?_ | refine A_seq ?_ | refine A_region ?_ | refine A_ret ?_ | (show opsA _ _ _ _ _ _ _; first | (refine O_split rfl rfl (fun h => ?_) (fun h => ?_) <;> try (exfalso; omega)) | refine O_ev WideF.wide rfl (Ev_pure rfl) rfl rfl ?_ | (show opsA _ _ _ _ (⟨_, .indexAddr _ _ _, _, _, _, _⟩ :: _) _ _; refine O_ev WideF.wide rfl (Ev_indexAddr rfl rfl (by omega) (by omega)) rfl rfl ?_)) | (show wpA _ _ _ (.exit _) _ _ _ _; refine A_exit rfl ?_) | (show wpA _ _ _ (.cond _ _ _) _ _ _ _; (refine A_if rfl (fun h => ?_) (fun h => ?_) <;> try (exfalso; omega))))
        all_goals (
          refine End_e (Ret2 rfl rfl rfl) ⟨⟨i, hsp, ?_⟩, rfl, rfl⟩
          refine congrArg (fun b => Value.tuple [.int .i64 (i : Int), .bool b].toArray) ?_
          rw [Bool.eq_iff_iff]
          simp only [decide_eq_true_eq, hmem, Option.some.injEq, cmpI_eq]
          try simp
          try omega)
      · have hno := hsp.not (by first | omega | (simp; omega))
        repeat' (first | refine O_nil ?_ | refine A_seq ?_ | refine A_region ?_ | refine A_ret ?_ | (show opsA _ _ _ _ _ _ _; first | (refine O_split rfl rfl (fun h => ?_) (fun h => ?_) <;> try (exfalso; omega)) | refine O_ev WideF.wide rfl (Ev_pure rfl) rfl rfl ?_ | refine O_skip WideF.wide rfl rfl rfl ?_) | (show wpA _ _ _ (.exit _) _ _ _ _; refine A_exit rfl ?_) | (show wpA _ _ _ (.cond _ _ _) _ _ _ _; (refine A_if rfl (fun h => ?_) (fun h => ?_) <;> try (exfalso; omega))))
        refine End_e (Ret2 rfl rfl rfl) ⟨⟨i, hsp, ?_⟩, rfl, rfl⟩
        first | rw [decide_eq_false hno] | (have : x ∉ (l.map Dele.rev) := hno; simp [this])
set_option maxRecDepth 100000 in
theorem has_fn {H : Hp} {a : Option Addr} {n cq : Nat} {l : List Int} {x : Int} (hx : HRow H a n cq 1 (l.map irow)) (hs : Inc l) (hm : n < 68719476736) : FnP Try.prog 49 [.slice a n cq, .int .i64 x] H (.bool (decide (x ∈ l))) := by
  refine Fn_of _ _ Try.func49 rfl Try.ntmps49 rfl fun c => ?_
  repeat' (first | (refine O_ef rfl (Ef_call (I := []) WideF.wide (bsInt_fn hx hs hm) ⟨rfl, rfl, trivial⟩ rfl ?_); rintro v H' I' hk ⟨⟨i, hsp, rfl⟩, rfl, rfl⟩) | refine O_nil ?_ | refine A_seq ?_ | refine A_region ?_ | refine A_ret ?_ | (show opsA _ _ _ _ _ _ _; refine O_ev WideF.wide rfl (Ev_pure rfl) rfl rfl ?_))
  exact End_p (Ret1 rfl rfl) rfl
end Go.Proofs.Ythniohgeojenaaa
