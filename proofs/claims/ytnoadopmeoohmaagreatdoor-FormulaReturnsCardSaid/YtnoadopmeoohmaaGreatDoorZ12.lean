import Derived.Test.YtnoadopmeoohmaaGreatDoorZ11
/-
  Values: kinds, Compare, compare, calculate, operate, toNumber. Printed by genF17.py.
-/
namespace Go.Proofs.YtnoadopmeoohmaaGreatDoor
open Go
set_option linter.unusedVariables false
set_option linter.unusedSimpArgs false
theorem boolean_fn {H : Hp} {b : Bool} : Fn Tryz.prog 60 [.bool b] H [] fun v _ I => v = rV (booV b) ∧ I = [] := by
  cases b
  · exact boolean_f (x := ())
  · exact boolean_t (x := ())
attribute [local irreducible] wpA opsA drJ drQ drE Ef Ev Shift Fn
set_option maxRecDepth 100000 in
set_option maxHeartbeats 4000000 in
theorem IndexV_fn {f : FuncId} [FunC Tryz.prog f] {caps : List Value} {pr : Val → Bool} {H : Hp} {a : Option Addr} {n cp : Nat} {l : List Val} (hx : HRow H a n cp 3 (l.map vlrow)) (hn : n < 4611686018427387904) (hf : ∀ x ∈ l, FnP Tryz.prog f ([.agg (vlrow x).toArray] ++ caps) H (.bool (pr x))) :
    Fn Tryz.prog 188 [.slice a n cp, .func (.func f) #[] caps.toArray] H [] fun v H' I => (∃ k : Int, v = .int .i64 k ∧ ((k = -1 ∧ ∀ x ∈ l, pr x = false) ∨ ∃ (i : Nat) (x : Val), k = i ∧ l[i]? = some x ∧ pr x = true ∧ ∀ (j : Nat) (y : Val), j < i → l[j]? = some y → pr y = false)) ∧ H' = H ∧ I = [] := by
  have hln : l.length = n := by have := hx.len; simpa using this
  refine Fn_of _ _ Tryz.func188 rfl Tryz.ntmps188 rfl fun c => ?_
  repeat' (first | refine O_nil ?_ | refine A_seq ?_ | refine A_region ?_ | refine A_block ?_ | (show opsA _ _ _ _ _ _ _; first | refine O_ev WideF.wide rfl (Ev_pure rfl) rfl rfl ?_ | (show opsA _ _ _ _ (⟨_, .call _, _, _, _, _⟩ :: _) _ _; refine O_ev WideF.wide rfl (Ev_llen rfl) rfl rfl ?_)))
  refine A_loopu (fun q s => ∃ i : Nat, q = n - i ∧ i ≤ n ∧ (∀ (j : Nat) (y : Val), j < i → l[j]? = some y → pr y = false) ∧ s = ⟨19, [(0, .slice a n cp), (1, .func (.func f) #[] caps.toArray), (7, .int .i64 n), (8, .int .i64 i)], H, [], [], []⟩) ?_ ?_
  · exact Shift.to ⟨_, 0, rfl, by omega, fun j _ h9 => absurd h9 (by omega), rfl⟩ ⟨rfl, rfl, rfl, ⟨rfl, rfl, rfl, rfl, trivial⟩, Own.sub_nil _⟩
  rintro q s ⟨i, rfl, hi, hno, rfl⟩
  by_cases hlt : i < n
  · obtain ⟨b, o, x, rfl, hxi, hc⟩ := hx.atm i hlt
    have hcall := hf x (List.mem_of_getElem? hxi)
    cases hb : pr x <;> rw [hb] at hcall
    · repeat' (first | (refine O_ev WideF.wide rfl (Ev_loadH rfl hc rfl) rfl rfl ?_) | (refine O_ef rfl (Ef_callcp WideF.wide (args := [.agg (vlrow x).toArray]) (caps := caps) hcall rfl ⟨rfl, trivial⟩ rfl ?_)) | refine O_nil ?_ | refine A_seq ?_ | refine A_region ?_ | refine A_skip ?_ | refine A_block ?_ | (show opsA _ _ _ _ _ _ _; first | refine O_ev WideF.wide rfl (Ev_pure rfl) rfl rfl ?_ | (show opsA _ _ _ _ (⟨_, .indexAddr _ _ _, _, _, _, _⟩ :: _) _ _; refine O_ev WideF.wide rfl (Ev_indexAddr rfl rfl (by omega) (by omega)) rfl rfl ?_) | (show opsA _ _ _ _ (⟨_, .binOp _ _ _ _ _, _, _, _, _⟩ :: _) _ _; refine O_ev WideF.wide rfl (Ev_add rfl rfl (wi64 (by omega))) rfl rfl ?_)) | (show wpA _ _ _ (.cond _ _ _) _ _ _ _; first | (refine A_if rfl (fun h => ?_) (fun h => ?_) <;> try (exfalso; omega)) | refine A_iffalse rfl ?_))
      all_goals first
        | (exfalso; omega)
        | (exfalso; contradiction)
        | (exfalso; exact absurd trivial (by assumption))
        | (exfalso; exact absurd rfl (by assumption))
        | exact Shift.to ⟨_, by omega, i + 1, rfl, by omega, fun j y h9 h8 => (if h7 : j = i then (by subst h7; rw [hxi] at h8; cases h8; exact hb) else hno j y (by omega) h8), rfl⟩ ⟨rfl, rfl, rfl, ⟨rfl, rfl, rfl, rfl, trivial⟩, Own.sub_nil _⟩
        | trace_state
    · repeat' (first | (refine O_ev WideF.wide rfl (Ev_loadH rfl hc rfl) rfl rfl ?_) | (refine O_ef rfl (Ef_callcp WideF.wide (args := [.agg (vlrow x).toArray]) (caps := caps) hcall rfl ⟨rfl, trivial⟩ rfl ?_)) | refine O_nil ?_ | refine A_seq ?_ | refine A_region ?_ | refine A_skip ?_ | refine A_ret ?_ | refine A_block ?_ | (show opsA _ _ _ _ _ _ _; first | refine O_ev WideF.wide rfl (Ev_pure rfl) rfl rfl ?_ | (show opsA _ _ _ _ (⟨_, .indexAddr _ _ _, _, _, _, _⟩ :: _) _ _; refine O_ev WideF.wide rfl (Ev_indexAddr rfl rfl (by omega) (by omega)) rfl rfl ?_)) | (show wpA _ _ _ (.cond _ _ _) _ _ _ _; first | (refine A_if rfl (fun h => ?_) (fun h => ?_) <;> try (exfalso; omega)) | refine A_iftrue rfl ?_))
      all_goals first
        | (exfalso; omega)
        | (exfalso; contradiction)
        | (exfalso; exact absurd trivial (by assumption))
        | (exfalso; exact absurd rfl (by assumption))
        | exact End_e (Ret1 rfl rfl) ⟨⟨_, rfl, .inr ⟨i, x, rfl, hxi, hb, hno⟩⟩, rfl, rfl⟩
        | trace_state
  · obtain rfl : i = n := by omega
    repeat' (first | refine O_nil ?_ | refine A_seq ?_ | refine A_region ?_ | refine A_ret ?_ | (show opsA _ _ _ _ _ _ _; refine O_ev WideF.wide rfl (Ev_pure rfl) rfl rfl ?_) | (show wpA _ _ _ (.exit _) _ _ _ _; refine A_exit rfl ?_) | (show wpA _ _ _ (.cond _ _ _) _ _ _ _; (refine A_if rfl (fun h => ?_) (fun h => ?_) <;> try (exfalso; omega))))
    all_goals first
      | (exfalso; omega)
      | (exfalso; contradiction)
      | (exfalso; exact absurd trivial (by assumption))
      | (exfalso; exact absurd rfl (by assumption))
      | exact End_e (Ret1 rfl rfl) ⟨⟨_, rfl, .inl ⟨rfl, fun x hx => (by obtain ⟨j, hj⟩ := List.mem_iff_getElem?.1 hx; exact hno j x (by have := (List.getElem?_eq_some_iff.1 hj).1; omega) hj)⟩⟩, rfl, rfl⟩
      | trace_state
set_option maxRecDepth 100000 in
set_option maxHeartbeats 4000000 in
theorem IndexB_fn {f : FuncId} [FunC Tryz.prog f] {caps : List Value} {pr : Bnd → Bool} {H : Hp} {a : Option Addr} {n cp : Nat} {l : List Bnd} (hx : HRow H a n cp 4 (l.map bdrow)) (hn : n < 4611686018427387904) (hf : ∀ x ∈ l, FnP Tryz.prog f ([.agg (bdrow x).toArray] ++ caps) H (.bool (pr x))) :
    Fn Tryz.prog 93 [.slice a n cp, .func (.func f) #[] caps.toArray] H [] fun v H' I => (∃ k : Int, v = .int .i64 k ∧ ((k = -1 ∧ ∀ x ∈ l, pr x = false) ∨ ∃ (i : Nat) (x : Bnd), k = i ∧ l[i]? = some x ∧ pr x = true ∧ ∀ (j : Nat) (y : Bnd), j < i → l[j]? = some y → pr y = false)) ∧ H' = H ∧ I = [] := by
  have hln : l.length = n := by have := hx.len; simpa using this
  refine Fn_of _ _ Tryz.func93 rfl Tryz.ntmps93 rfl fun c => ?_
  repeat' (first | refine O_nil ?_ | refine A_seq ?_ | refine A_region ?_ | refine A_block ?_ | (show opsA _ _ _ _ _ _ _; first | refine O_ev WideF.wide rfl (Ev_pure rfl) rfl rfl ?_ | (show opsA _ _ _ _ (⟨_, .call _, _, _, _, _⟩ :: _) _ _; refine O_ev WideF.wide rfl (Ev_llen rfl) rfl rfl ?_)))
  refine A_loopu (fun q s => ∃ i : Nat, q = n - i ∧ i ≤ n ∧ (∀ (j : Nat) (y : Bnd), j < i → l[j]? = some y → pr y = false) ∧ s = ⟨19, [(0, .slice a n cp), (1, .func (.func f) #[] caps.toArray), (7, .int .i64 n), (8, .int .i64 i)], H, [], [], []⟩) ?_ ?_
  · exact Shift.to ⟨_, 0, rfl, by omega, fun j _ h9 => absurd h9 (by omega), rfl⟩ ⟨rfl, rfl, rfl, ⟨rfl, rfl, rfl, rfl, trivial⟩, Own.sub_nil _⟩
  rintro q s ⟨i, rfl, hi, hno, rfl⟩
  by_cases hlt : i < n
  · obtain ⟨b, o, x, rfl, hxi, hc⟩ := hx.atm i hlt
    have hcall := hf x (List.mem_of_getElem? hxi)
    cases hb : pr x <;> rw [hb] at hcall
    · repeat' (first | (refine O_ev WideF.wide rfl (Ev_loadH rfl hc rfl) rfl rfl ?_) | (refine O_ef rfl (Ef_callcp WideF.wide (args := [.agg (bdrow x).toArray]) (caps := caps) hcall rfl ⟨rfl, trivial⟩ rfl ?_)) | refine O_nil ?_ | refine A_seq ?_ | refine A_region ?_ | refine A_skip ?_ | refine A_block ?_ | (show opsA _ _ _ _ _ _ _; first | refine O_ev WideF.wide rfl (Ev_pure rfl) rfl rfl ?_ | (show opsA _ _ _ _ (⟨_, .indexAddr _ _ _, _, _, _, _⟩ :: _) _ _; refine O_ev WideF.wide rfl (Ev_indexAddr rfl rfl (by omega) (by omega)) rfl rfl ?_) | (show opsA _ _ _ _ (⟨_, .binOp _ _ _ _ _, _, _, _, _⟩ :: _) _ _; refine O_ev WideF.wide rfl (Ev_add rfl rfl (wi64 (by omega))) rfl rfl ?_)) | (show wpA _ _ _ (.cond _ _ _) _ _ _ _; first | (refine A_if rfl (fun h => ?_) (fun h => ?_) <;> try (exfalso; omega)) | refine A_iffalse rfl ?_))
      all_goals first
        | (exfalso; omega)
        | (exfalso; contradiction)
        | (exfalso; exact absurd trivial (by assumption))
        | (exfalso; exact absurd rfl (by assumption))
        | exact Shift.to ⟨_, by omega, i + 1, rfl, by omega, fun j y h9 h8 => (if h7 : j = i then (by subst h7; rw [hxi] at h8; cases h8; exact hb) else hno j y (by omega) h8), rfl⟩ ⟨rfl, rfl, rfl, ⟨rfl, rfl, rfl, rfl, trivial⟩, Own.sub_nil _⟩
        | trace_state
    · repeat' (first | (refine O_ev WideF.wide rfl (Ev_loadH rfl hc rfl) rfl rfl ?_) | (refine O_ef rfl (Ef_callcp WideF.wide (args := [.agg (bdrow x).toArray]) (caps := caps) hcall rfl ⟨rfl, trivial⟩ rfl ?_)) | refine O_nil ?_ | refine A_seq ?_ | refine A_region ?_ | refine A_skip ?_ | refine A_ret ?_ | refine A_block ?_ | (show opsA _ _ _ _ _ _ _; first | refine O_ev WideF.wide rfl (Ev_pure rfl) rfl rfl ?_ | (show opsA _ _ _ _ (⟨_, .indexAddr _ _ _, _, _, _, _⟩ :: _) _ _; refine O_ev WideF.wide rfl (Ev_indexAddr rfl rfl (by omega) (by omega)) rfl rfl ?_)) | (show wpA _ _ _ (.cond _ _ _) _ _ _ _; first | (refine A_if rfl (fun h => ?_) (fun h => ?_) <;> try (exfalso; omega)) | refine A_iftrue rfl ?_))
      all_goals first
        | (exfalso; omega)
        | (exfalso; contradiction)
        | (exfalso; exact absurd trivial (by assumption))
        | (exfalso; exact absurd rfl (by assumption))
        | exact End_e (Ret1 rfl rfl) ⟨⟨_, rfl, .inr ⟨i, x, rfl, hxi, hb, hno⟩⟩, rfl, rfl⟩
        | trace_state
  · obtain rfl : i = n := by omega
    repeat' (first | refine O_nil ?_ | refine A_seq ?_ | refine A_region ?_ | refine A_ret ?_ | (show opsA _ _ _ _ _ _ _; refine O_ev WideF.wide rfl (Ev_pure rfl) rfl rfl ?_) | (show wpA _ _ _ (.exit _) _ _ _ _; refine A_exit rfl ?_) | (show wpA _ _ _ (.cond _ _ _) _ _ _ _; (refine A_if rfl (fun h => ?_) (fun h => ?_) <;> try (exfalso; omega))))
    all_goals first
      | (exfalso; omega)
      | (exfalso; contradiction)
      | (exfalso; exact absurd trivial (by assumption))
      | (exfalso; exact absurd rfl (by assumption))
      | exact End_e (Ret1 rfl rfl) ⟨⟨_, rfl, .inl ⟨rfl, fun x hx => (by obtain ⟨j, hj⟩ := List.mem_iff_getElem?.1 hx; exact hno j x (by have := (List.getElem?_eq_some_iff.1 hj).1; omega) hj)⟩⟩, rfl, rfl⟩
      | trace_state
set_option maxRecDepth 100000 in
theorem kinds1_fn {H : Hp} {x : Val} {k : Int} {b : Nat} (hb : H b 0 = some (.int .i64 k)) : FnP Tryz.prog 161 [.agg (vlrow x).toArray, .pointer (some ⟨b, 0, none⟩)] H (.bool (decide (¬ x.kind = k))) := by
  obtain ⟨kk, n, s⟩ := x
  show FnP Tryz.prog 161 [.agg [.int .i64 kk, .int .i64 n, sv s].toArray, .pointer (some ⟨b, 0, none⟩)] H (.bool (decide (¬ kk = k)))
  refine Fn_of _ _ Tryz.func161 rfl Tryz.ntmps161 rfl fun c => ?_
  repeat' (first | (refine O_ef rfl (Ef_boxa WideF.wide (cs := [.int .i64 _, .int .i64 _, sv s]) rfl rfl ?_); intro b1) | (refine O_ev WideF.wide rfl (Ev_loadH1 rfl hb) rfl rfl ?_) | refine O_nil ?_ | refine A_seq ?_ | refine A_region ?_ | refine A_ret ?_ | (show opsA _ _ _ _ _ _ _; first | refine O_ev WideF.wide rfl (Ev_pure rfl) rfl rfl ?_ | (show opsA _ _ _ _ (⟨_, .load _ _, _, _, _, _⟩ :: _) _ _; refine O_ev WideF.wide rfl (Ev_loadB1 (i := 0) rfl rfl rfl) rfl rfl ?_) | (show opsA _ _ _ _ (⟨_, .fieldAddr _ _ _, _, _, _, _⟩ :: _) _ _; refine O_ev WideF.wide rfl (Ev_fieldAddr rfl rfl rfl) rfl rfl ?_)))
  exact End_p (Ret1 rfl rfl) rfl
theorem ContainsV_fn {f : FuncId} [FunC Tryz.prog f] {caps : List Value} {pr : Val → Bool} {H : Hp} {a : Option Addr} {n c : Nat} {l : List Val} (hx : HRow H a n c 3 (l.map vlrow)) (hn : n < 4611686018427387904) (hf : ∀ x ∈ l, FnP Tryz.prog f ([.agg (vlrow x).toArray] ++ caps) H (.bool (pr x))) :
    FnP Tryz.prog 160 [.slice a n c, .func (.func f) #[] caps.toArray] H (.bool (l.any pr)) := by
  have k := IndexV_fn hx hn hf
  refine Fn_of _ _ Tryz.func160 rfl Tryz.ntmps160 rfl fun c => ?_
  repeat' (first | (refine O_ef rfl (Ef_call (I := []) WideF.wide k ⟨rfl, rfl, trivial⟩ rfl ?_); rintro v H2 I2 hle2 ⟨⟨q, rfl, hq⟩, rfl, rfl⟩) | refine O_nil ?_ | refine A_seq ?_ | refine A_region ?_ | refine A_ret ?_ | (show opsA _ _ _ _ _ _ _; refine O_ev WideF.wide rfl (Ev_pure rfl) rfl rfl ?_))
  refine End_p (Ret1 rfl rfl) (congrArg Value.bool ?_)
  rcases hq with ⟨rfl, hno⟩ | ⟨i, x, rfl, hi, hp, _⟩
  · rw [show l.any pr = false from List.any_eq_false.2 fun x hx => by simp [hno x hx]]
    decide
  · rw [show l.any pr = true from List.any_eq_true.2 ⟨x, List.mem_of_getElem? hi, hp⟩]
    exact decide_eq_true (by omega)
theorem allK_any (l : List Val) (k : Int) : (!(l.any fun x => decide (¬ x.kind = k))) = allK l k := by
  unfold allK
  induction l with
  | nil => rfl
  | cons x l ih =>
    simp only [List.any_cons, List.all_cons, Bool.not_or, ih]
    congr 1
    by_cases h : x.kind = k <;> simp [h]
set_option maxRecDepth 100000 in
theorem kinds_fn {H : Hp} {a : Option Addr} {n c : Nat} {l : List Val} {k : Int} (hx : HRow H a n c 3 (l.map vlrow)) (hn : n < 4611686018427387904) :
    Fn Tryz.prog 138 [.slice a n c, .int .i64 k] H [] fun v _ I => v = .bool (allK l k) ∧ I = [] := by
  refine Fn_of _ _ Tryz.func138 rfl Tryz.ntmps138 rfl fun c => ?_
  repeat' (first | (refine O_ef rfl (Ef_box1 WideF.wide rfl rfl rfl ?_); intro b1; refine O_freezeBox (by intro u hu; simp at hu; subst hu; rfl) ?_; intro H1 hle1 hb1) | (refine O_ev WideF.wide rfl (Ev_makeFunc (xs := []) (ys := [_]) (vs := []) (us := [_]) rfl rfl) rfl rfl ?_) | (refine O_ef rfl (Ef_callp WideF.wide (ContainsV_fn (f := 161) (caps := [.pointer (some ⟨b1, 0, none⟩)]) (pr := fun x => decide (¬ x.kind = k)) (hx.mono hle1) hn (fun x _ => kinds1_fn (hb1 0 _ rfl))) ⟨rfl, rfl, trivial⟩ rfl ?_)) | refine O_nil ?_ | refine A_seq ?_ | refine A_region ?_ | refine A_ret ?_ | (show opsA _ _ _ _ _ _ _; first | refine O_ev WideF.wide rfl (Ev_pure rfl) rfl rfl ?_ | (show opsA _ _ _ _ (⟨_, .unOp _ _ _, _, _, _, _⟩ :: _) _ _; refine O_ev WideF.wide rfl (Ev_notb rfl) rfl rfl ?_)))
  exact End_e (Ret1 rfl rfl) ⟨congrArg Value.bool (allK_any l k), rfl⟩
theorem CompareString_fn {H : Hp} {x y : List UInt8} : FnP Tryz.prog 189 [sv x, sv y] H (.int .i64 (Lib.compareBytes x y)) := by
  refine Fn_of _ _ Tryz.func189 rfl Tryz.ntmps189 rfl fun c => ?_
  repeat' (first | (refine O_ev WideF.wide rfl (Ev_cmpstr rfl rfl) rfl rfl ?_) | refine O_nil ?_ | refine A_seq ?_ | refine A_region ?_ | refine A_ret ?_ | (show opsA _ _ _ _ _ _ _; refine O_ev WideF.wide rfl (Ev_pure rfl) rfl rfl ?_))
  exact End_p (Ret1 rfl rfl) rfl
theorem Compare_fn {H : Hp} {x y : List UInt8} : FnP Tryz.prog 162 [sv x, sv y] H (.int .i64 (Lib.compareBytes x y)) := by
  have k := CompareString_fn (H := H) (x := x) (y := y)
  refine Fn_of _ _ Tryz.func162 rfl Tryz.ntmps162 rfl fun c => ?_
  repeat' (first | (refine O_ef rfl (Ef_callp WideF.wide (k) ⟨rfl, rfl, trivial⟩ rfl ?_)) | refine O_nil ?_ | refine A_seq ?_ | refine A_region ?_ | refine A_ret ?_ | (show opsA _ _ _ _ _ _ _; refine O_ev WideF.wide rfl (Ev_pure rfl) rfl rfl ?_))
  exact End_p (Ret1 rfl rfl) rfl
/-- the answers of a comparison, by its operation -/
def cmpKvs (q : Int) : List (Int × Value) := [(9, .bool (decide (q = 0))), (10, .bool (decide (¬ q = 0))), (11, .bool (decide (q < 0))), (12, .bool (decide (q ≤ 0))), (13, .bool (decide (0 < q))), (14, .bool (decide (0 ≤ q)))]
theorem cmpKvs_get (q op : Int) : mget (.bool false) (cmpKvs q) op = .bool (if op = 9 then decide (q = 0) else if op = 10 then decide (q ≠ 0) else if op = 11 then decide (q < 0) else if op = 12 then decide (q ≤ 0) else if op = 13 then decide (0 < q) else if op = 14 then decide (0 ≤ q) else false) := by
  simp only [cmpKvs, mget]
  repeat' split
  all_goals rfl
set_option maxRecDepth 100000 in
set_option maxHeartbeats 8000000 in
theorem compare_fn {H : Hp} {op : Int} {x y : Val} : Fn Tryz.prog 139 [.int .i64 op, rV x, rV y] H [] fun v _ I => v = rVE (cmpV op x y) ∧ I = [] := by
  obtain ⟨k, n, s⟩ := x
  obtain ⟨k', n', s'⟩ := y
  show Fn Tryz.prog 139 [.int .i64 op, .agg [.int .i64 k, .int .i64 n, sv s].toArray, .agg [.int .i64 k', .int .i64 n', sv s'].toArray] H [] _
  have kc := fun Hx => Compare_fn (H := Hx) (x := s) (y := s')
  by_cases hb : k ≠ k' ∨ (10 < op ∧ k = 3)
  · rw [show cmpV op ⟨k, n, s⟩ ⟨k', n', s'⟩ = (zV, 3) from if_pos hb]
    refine Fn_of _ _ Tryz.func139 rfl Tryz.ntmps139 rfl fun c => ?_
    repeat' (first | (show opsA _ _ _ _ (⟨some 4, .box _ _, _, _, _, _⟩ :: _) _ _; refine O_ef rfl (Ef_boxa WideF.wide (cs := [.int .i64 k, .int .i64 n, sv s]) rfl rfl ?_); intro b1) | (refine O_ef rfl (Ef_boxa WideF.wide (cs := [.int .i64 k', .int .i64 n', sv s']) rfl rfl ?_); intro b2) | refine O_nil ?_ | refine A_seq ?_ | refine A_region ?_ | refine A_ret ?_ | (show opsA _ _ _ _ _ _ _; first | (refine O_split rfl rfl (fun h => ?_) (fun h => ?_) <;> try (exfalso; omega)) | refine O_ev WideF.wide rfl (Ev_pure rfl) rfl rfl ?_ | (show opsA _ _ _ _ (⟨_, .load _ _, _, _, _, _⟩ :: _) _ _; first | refine O_ev WideF.wide rfl (Ev_loadB1 (i := 1) rfl rfl rfl) rfl rfl ?_ | refine O_ev WideF.wide rfl (Ev_loadB1 (i := 2) rfl rfl rfl) rfl rfl ?_) | (show opsA _ _ _ _ (⟨_, .fieldAddr _ _ _, _, _, _, _⟩ :: _) _ _; refine O_ev WideF.wide rfl (Ev_fieldAddr rfl rfl rfl) rfl rfl ?_) | (show opsA _ _ _ _ (⟨_, .build _ _, _, _, _, _⟩ :: _) _ _; refine O_ev WideF.wide rfl (Ev_build (vs := []) trivial rfl) rfl rfl ?_) | (show opsA _ _ _ _ (⟨_, .alloc _, _, _, _, _⟩ :: _) _ _; (refine O_ef rfl (Ef_alloc WideF.wide rfl ?_); intro b)) | (show opsA _ _ _ _ (⟨_, .store _ _ _, _, _, _, _⟩ :: _) _ _; refine O_ef rfl (Ef_storew WideF.wide rfl rfl rfl rfl rfl ?_)) | refine O_skip WideF.wide rfl rfl rfl ?_) | (show wpA _ _ _ (.cond _ _ _) _ _ _ _; first | (refine A_if rfl (fun h => ?_) (fun h => ?_) <;> try (exfalso; omega)) | refine A_iftrue rfl ?_))
    all_goals first
      | (exfalso; omega)
      | (exfalso; contradiction)
      | (exfalso; exact absurd trivial (by assumption))
      | (exfalso; exact absurd rfl (by assumption))
      | exact End_e (RetC2 (i := 0) rfl rfl rfl rfl rfl) ⟨rfl, rfl⟩
      | exact End_e (RetC2 (i := 1) rfl rfl rfl rfl rfl) ⟨rfl, rfl⟩
      | exact End_e (RetC2 (i := 2) rfl rfl rfl rfl rfl) ⟨rfl, rfl⟩
      | trace_state
  · obtain ⟨q, hq⟩ : ∃ q, q = ordV ⟨k, n, s⟩ ⟨k', n', s'⟩ := ⟨_, rfl⟩
    have hg := cmpKvs_get q op
    rw [show cmpV op ⟨k, n, s⟩ ⟨k', n', s'⟩ = (booV (if op = 9 then decide (q = 0) else if op = 10 then decide (q ≠ 0) else if op = 11 then decide (q < 0) else if op = 12 then decide (q ≤ 0) else if op = 13 then decide (0 < q) else if op = 14 then decide (0 ≤ q) else false), 0) from (if_neg hb).trans (by rw [hq])]
    obtain ⟨bb, hbb⟩ : ∃ bb, bb = (if op = 9 then decide (q = 0) else if op = 10 then decide (q ≠ 0) else if op = 11 then decide (q < 0) else if op = 12 then decide (q ≤ 0) else if op = 13 then decide (0 < q) else if op = 14 then decide (0 ≤ q) else false) := ⟨_, rfl⟩
    rw [← hbb] at hg ⊢
    by_cases h2 : k = 2
    · rw [show ordV ⟨k, n, s⟩ ⟨k', n', s'⟩ = Lib.compareBytes s s' from if_neg (by simp [h2])] at hq
      rw [← hq] at kc
      refine Fn_of _ _ Tryz.func139 rfl Tryz.ntmps139 rfl fun c => ?_
      repeat' (first | (show opsA _ _ _ _ (⟨some 4, .box _ _, _, _, _, _⟩ :: _) _ _; refine O_ef rfl (Ef_boxa WideF.wide (cs := [.int .i64 k, .int .i64 n, sv s]) rfl rfl ?_); intro b1) | (refine O_ef rfl (Ef_boxa WideF.wide (cs := [.int .i64 k', .int .i64 n', sv s']) rfl rfl ?_); intro b2) | (refine O_ef rfl (Ef_callp WideF.wide (kc _) ⟨rfl, rfl, trivial⟩ rfl ?_)) | (refine O_ef rfl (Ef_makeMap WideF.wide rfl ?_); intro mb) | (refine O_ef rfl (Ef_mapIns WideF.wide rfl rfl rfl (by simp [mhas]) ?_)) | (refine O_ev WideF.wide rfl (Ev_lookupI (i := 0) (kvs := cmpKvs q) (zv := .bool false) Tryz.zeroValue4 rfl rfl rfl) rfl rfl ?_; rw [hg]) | (refine O_ef rfl (Ef_call (I := []) WideF.wide (boolean_fn (b := bb)) ⟨rfl, trivial⟩ rfl ?_); rintro v1 H1 I1 hle1 ⟨rfl, rfl⟩) | refine O_nil ?_ | refine A_seq ?_ | refine A_region ?_ | refine A_skip ?_ | refine A_ret ?_ | (show opsA _ _ _ _ _ _ _; first | (refine O_split rfl rfl (fun h => ?_) (fun h => ?_) <;> try (exfalso; omega)) | refine O_ev WideF.wide rfl (Ev_pure rfl) rfl rfl ?_ | (show opsA _ _ _ _ (⟨_, .load _ _, _, _, _, _⟩ :: _) _ _; first | refine O_ev WideF.wide rfl (Ev_loadB1 (i := 1) rfl rfl rfl) rfl rfl ?_ | refine O_ev WideF.wide rfl (Ev_loadB1 (i := 2) rfl rfl rfl) rfl rfl ?_) | (show opsA _ _ _ _ (⟨_, .fieldAddr _ _ _, _, _, _, _⟩ :: _) _ _; refine O_ev WideF.wide rfl (Ev_fieldAddr rfl rfl rfl) rfl rfl ?_) | (show opsA _ _ _ _ (⟨_, .alloc _, _, _, _, _⟩ :: _) _ _; (refine O_ef rfl (Ef_alloc WideF.wide rfl ?_); intro b)) | (show opsA _ _ _ _ (⟨_, .store _ _ _, _, _, _, _⟩ :: _) _ _; refine O_f1 (O_ef rfl (Ef_storew WideF.wide rfl rfl rfl rfl rfl ?_))) | refine O_skip WideF.wide rfl rfl rfl ?_) | (show wpA _ _ _ (.cond _ _ _) _ _ _ _; first | (refine A_if rfl (fun h => ?_) (fun h => ?_) <;> try (exfalso; omega)) | refine A_iffalse rfl ?_))
      all_goals first
        | (exfalso; omega)
        | (exfalso; contradiction)
        | (exfalso; exact absurd trivial (by assumption))
        | (exfalso; exact absurd rfl (by assumption))
        | exact End_e (RetC2 (i := 0) rfl rfl rfl rfl rfl) ⟨rfl, rfl⟩
        | exact End_e (RetC2 (i := 1) rfl rfl rfl rfl rfl) ⟨rfl, rfl⟩
        | exact End_e (RetC2 (i := 2) rfl rfl rfl rfl rfl) ⟨rfl, rfl⟩
        | trace_state
    · rw [show ordV ⟨k, n, s⟩ ⟨k', n', s'⟩ = (if 1 < (if w64 (n - n') < -1 then -1 else w64 (n - n')) then 1 else (if w64 (n - n') < -1 then -1 else w64 (n - n'))) from if_pos h2] at hq
      refine Fn_of _ _ Tryz.func139 rfl Tryz.ntmps139 rfl fun c => ?_
      repeat' (first | (show opsA _ _ _ _ (⟨some 4, .box _ _, _, _, _, _⟩ :: _) _ _; refine O_ef rfl (Ef_boxa WideF.wide (cs := [.int .i64 k, .int .i64 n, sv s]) rfl rfl ?_); intro b1) | (refine O_ef rfl (Ef_boxa WideF.wide (cs := [.int .i64 k', .int .i64 n', sv s']) rfl rfl ?_); intro b2) | (refine O_ef rfl (Ef_callp WideF.wide (kc _) ⟨rfl, rfl, trivial⟩ rfl ?_)) | (refine O_ev WideF.wide rfl (Ev_sub rfl rfl rfl) rfl rfl ?_) | (refine O_ev WideF.wide rfl (Ev_mini rfl rfl) rfl rfl ?_; rw [← hq]) | (refine O_ef rfl (Ef_makeMap WideF.wide rfl ?_); intro mb) | (refine O_ef rfl (Ef_mapIns WideF.wide rfl rfl rfl (by simp [mhas]) ?_)) | (refine O_ev WideF.wide rfl (Ev_lookupI (i := 0) (kvs := cmpKvs q) (zv := .bool false) Tryz.zeroValue4 rfl rfl rfl) rfl rfl ?_; rw [hg]) | (refine O_ef rfl (Ef_call (I := []) WideF.wide (boolean_fn (b := bb)) ⟨rfl, trivial⟩ rfl ?_); rintro v1 H1 I1 hle1 ⟨rfl, rfl⟩) | refine O_nil ?_ | refine A_seq ?_ | refine A_region ?_ | refine A_skip ?_ | refine A_ret ?_ | (show opsA _ _ _ _ _ _ _; first | (refine O_split rfl rfl (fun h => ?_) (fun h => ?_) <;> try (exfalso; omega)) | refine O_ev WideF.wide rfl (Ev_pure rfl) rfl rfl ?_ | (show opsA _ _ _ _ (⟨_, .load _ _, _, _, _, _⟩ :: _) _ _; first | refine O_ev WideF.wide rfl (Ev_loadB1 (i := 1) rfl rfl rfl) rfl rfl ?_ | refine O_ev WideF.wide rfl (Ev_loadB1 (i := 2) rfl rfl rfl) rfl rfl ?_) | (show opsA _ _ _ _ (⟨_, .fieldAddr _ _ _, _, _, _, _⟩ :: _) _ _; refine O_ev WideF.wide rfl (Ev_fieldAddr rfl rfl rfl) rfl rfl ?_) | (show opsA _ _ _ _ (⟨_, .call _, _, _, _, _⟩ :: _) _ _; refine O_ev WideF.wide rfl (Ev_maxi rfl rfl) rfl rfl ?_) | (show opsA _ _ _ _ (⟨_, .alloc _, _, _, _, _⟩ :: _) _ _; (refine O_ef rfl (Ef_alloc WideF.wide rfl ?_); intro b)) | (show opsA _ _ _ _ (⟨_, .store _ _ _, _, _, _, _⟩ :: _) _ _; refine O_f1 (O_ef rfl (Ef_storew WideF.wide rfl rfl rfl rfl rfl ?_))) | refine O_skip WideF.wide rfl rfl rfl ?_) | (show wpA _ _ _ (.cond _ _ _) _ _ _ _; first | (refine A_if rfl (fun h => ?_) (fun h => ?_) <;> try (exfalso; omega)) | refine A_iffalse rfl ?_))
      all_goals first
        | (exfalso; omega)
        | (exfalso; contradiction)
        | (exfalso; exact absurd trivial (by assumption))
        | (exfalso; exact absurd rfl (by assumption))
        | exact End_e (RetC2 (i := 0) rfl rfl rfl rfl rfl) ⟨rfl, rfl⟩
        | exact End_e (RetC2 (i := 1) rfl rfl rfl rfl rfl) ⟨rfl, rfl⟩
        | exact End_e (RetC2 (i := 2) rfl rfl rfl rfl rfl) ⟨rfl, rfl⟩
        | trace_state
theorem w64_self (a : Int) (h : I64 a) : w64 a = a := wi64 h
theorem absI_ne {a : Int} (h : I64 a) (h0 : a ≠ 0) : absI a ≠ 0 := by
  unfold absI
  split
  · rename_i h1
    by_cases h2 : a = -9223372036854775808
    · subst h2; exact absurd h1 (by decide)
    · rw [w64_self _ ⟨by omega, by omega⟩]; omega
  · exact h0
set_option maxRecDepth 100000 in
set_option maxHeartbeats 8000000 in
theorem calculate_fn {H : Hp} {op x y : Int} (hx : I64 x) (hy : I64 y) : Fn Tryz.prog 140 [.int .i64 op, .int .i64 x, .int .i64 y] H [] fun v _ I => v = rVE (calV op x y) ∧ I = [] := by
  by_cases h1 : (op = 19 ∨ op = 20) ∧ y = 0
  · rw [show calV op x y = (zV, 28) from if_pos h1]
    refine Fn_of _ _ Tryz.func140 rfl Tryz.ntmps140 rfl fun c => ?_
    repeat' (first | refine O_nil ?_ | refine A_seq ?_ | refine A_region ?_ | refine A_ret ?_ | refine A_block ?_ | (show opsA _ _ _ _ _ _ _; first | (refine O_split rfl rfl (fun h => ?_) (fun h => ?_) <;> try (exfalso; omega)) | refine O_ev WideF.wide rfl (Ev_pure rfl) rfl rfl ?_ | (show opsA _ _ _ _ (⟨_, .build _ _, _, _, _, _⟩ :: _) _ _; refine O_ev WideF.wide rfl (Ev_build (vs := []) trivial rfl) rfl rfl ?_) | (show opsA _ _ _ _ (⟨_, .alloc _, _, _, _, _⟩ :: _) _ _; (refine O_ef rfl (Ef_alloc WideF.wide rfl ?_); intro b)) | (show opsA _ _ _ _ (⟨_, .store _ _ _, _, _, _, _⟩ :: _) _ _; refine O_ef rfl (Ef_storew WideF.wide rfl rfl rfl rfl rfl ?_)) | refine O_skip WideF.wide rfl rfl rfl ?_) | (show wpA _ _ _ (.cond _ _ _) _ _ _ _; (refine A_if rfl (fun h => ?_) (fun h => ?_) <;> try (exfalso; omega))))
    all_goals first
      | (exfalso; omega)
      | (exfalso; contradiction)
      | (exfalso; exact absurd trivial (by assumption))
      | (exfalso; exact absurd rfl (by assumption))
      | exact End_e (RetC2 (i := 0) rfl rfl rfl rfl rfl) ⟨rfl, rfl⟩
      | trace_state
  by_cases h2 : op = 15
  · rw [show calV op x y = chkV (numV (w64 (x + y))) from (if_neg h1).trans (if_pos h2)]
    refine Fn_of _ _ Tryz.func140 rfl Tryz.ntmps140 rfl fun c => ?_
    repeat' (first | (refine O_ev WideF.wide rfl (Ev_add rfl rfl rfl) rfl rfl ?_) | (refine O_ef rfl (Ef_call (I := []) WideF.wide (number_fn (n := _)) ⟨rfl, trivial⟩ rfl ?_); rintro v1 H1 I1 hle1 ⟨rfl, rfl⟩) | (refine O_ef rfl (Ef_call (I := []) WideF.wide (checked_fn (x := numV _) (by simp [numV])) ⟨rfl, trivial⟩ rfl ?_); rintro v2 H2 I2 hle2 ⟨rfl, rfl⟩) | refine O_nil ?_ | refine A_seq ?_ | refine A_region ?_ | refine A_ret ?_ | refine A_block ?_ | (show opsA _ _ _ _ _ _ _; first | (refine O_split rfl rfl (fun h => ?_) (fun h => ?_) <;> try (exfalso; omega)) | refine O_ev WideF.wide rfl (Ev_pure rfl) rfl rfl ?_ | (show opsA _ _ _ _ (⟨_, .alloc _, _, _, _, _⟩ :: _) _ _; (refine O_ef rfl (Ef_alloc WideF.wide rfl ?_); intro b)) | (show opsA _ _ _ _ (⟨_, .store _ _ _, _, _, _, _⟩ :: _) _ _; refine O_ef rfl (Ef_storew WideF.wide rfl rfl rfl rfl rfl ?_)) | refine O_skip WideF.wide rfl rfl rfl ?_) | (show wpA _ _ _ (.cond _ _ _) _ _ _ _; first | (refine A_if rfl (fun h => ?_) (fun h => ?_) <;> try (exfalso; omega)) | refine A_iffalse rfl ?_))
    all_goals first
      | (exfalso; omega)
      | (exfalso; contradiction)
      | (exfalso; exact absurd trivial (by assumption))
      | (exfalso; exact absurd rfl (by assumption))
      | exact End_e (RetC2 (i := 0) rfl rfl rfl rfl rfl) ⟨rfl, rfl⟩
      | trace_state

  by_cases h3 : op = 16
  · rw [show calV op x y = chkV (numV (w64 (x - y))) from ((if_neg h1).trans (if_neg h2)).trans (if_pos h3)]
    refine Fn_of _ _ Tryz.func140 rfl Tryz.ntmps140 rfl fun c => ?_
    repeat' (first | (refine O_ev WideF.wide rfl (Ev_sub rfl rfl rfl) rfl rfl ?_) | (refine O_ef rfl (Ef_call (I := []) WideF.wide (number_fn (n := _)) ⟨rfl, trivial⟩ rfl ?_); rintro v1 H1 I1 hle1 ⟨rfl, rfl⟩) | (refine O_ef rfl (Ef_call (I := []) WideF.wide (checked_fn (x := numV _) (by simp [numV])) ⟨rfl, trivial⟩ rfl ?_); rintro v2 H2 I2 hle2 ⟨rfl, rfl⟩) | refine O_nil ?_ | refine A_seq ?_ | refine A_region ?_ | refine A_ret ?_ | refine A_block ?_ | (show opsA _ _ _ _ _ _ _; first | (refine O_split rfl rfl (fun h => ?_) (fun h => ?_) <;> try (exfalso; omega)) | refine O_ev WideF.wide rfl (Ev_pure rfl) rfl rfl ?_ | (show opsA _ _ _ _ (⟨_, .alloc _, _, _, _, _⟩ :: _) _ _; (refine O_ef rfl (Ef_alloc WideF.wide rfl ?_); intro b)) | (show opsA _ _ _ _ (⟨_, .store _ _ _, _, _, _, _⟩ :: _) _ _; refine O_ef rfl (Ef_storew WideF.wide rfl rfl rfl rfl rfl ?_)) | refine O_skip WideF.wide rfl rfl rfl ?_) | (show wpA _ _ _ (.cond _ _ _) _ _ _ _; first | (refine A_if rfl (fun h => ?_) (fun h => ?_) <;> try (exfalso; omega)) | refine A_iffalse rfl ?_))
    all_goals first
      | (exfalso; omega)
      | (exfalso; contradiction)
      | (exfalso; exact absurd trivial (by assumption))
      | (exfalso; exact absurd rfl (by assumption))
      | exact End_e (RetC2 (i := 0) rfl rfl rfl rfl rfl) ⟨rfl, rfl⟩
      | trace_state

  by_cases h4 : op = 19
  · rw [show calV op x y = chkV (numV (w64 (x.tdiv y))) from (((if_neg h1).trans (if_neg h2)).trans (if_neg h3)).trans (if_pos h4)]
    refine Fn_of _ _ Tryz.func140 rfl Tryz.ntmps140 rfl fun c => ?_
    repeat' (first | (refine O_ev WideF.wide rfl (Ev_quo rfl rfl (by omega) rfl) rfl rfl ?_) | (refine O_ef rfl (Ef_call (I := []) WideF.wide (number_fn (n := _)) ⟨rfl, trivial⟩ rfl ?_); rintro v1 H1 I1 hle1 ⟨rfl, rfl⟩) | (refine O_ef rfl (Ef_call (I := []) WideF.wide (checked_fn (x := numV _) (by simp [numV])) ⟨rfl, trivial⟩ rfl ?_); rintro v2 H2 I2 hle2 ⟨rfl, rfl⟩) | refine O_nil ?_ | refine A_seq ?_ | refine A_region ?_ | refine A_ret ?_ | refine A_block ?_ | (show opsA _ _ _ _ _ _ _; first | (refine O_split rfl rfl (fun h => ?_) (fun h => ?_) <;> try (exfalso; omega)) | refine O_ev WideF.wide rfl (Ev_pure rfl) rfl rfl ?_ | (show opsA _ _ _ _ (⟨_, .alloc _, _, _, _, _⟩ :: _) _ _; (refine O_ef rfl (Ef_alloc WideF.wide rfl ?_); intro b)) | (show opsA _ _ _ _ (⟨_, .store _ _ _, _, _, _, _⟩ :: _) _ _; refine O_ef rfl (Ef_storew WideF.wide rfl rfl rfl rfl rfl ?_)) | refine O_skip WideF.wide rfl rfl rfl ?_) | (show wpA _ _ _ (.cond _ _ _) _ _ _ _; (refine A_if rfl (fun h => ?_) (fun h => ?_) <;> try (exfalso; omega))))
    all_goals first
      | (exfalso; omega)
      | (exfalso; contradiction)
      | (exfalso; exact absurd trivial (by assumption))
      | (exfalso; exact absurd rfl (by assumption))
      | exact End_e (RetC2 (i := 0) rfl rfl rfl rfl rfl) ⟨rfl, rfl⟩
      | trace_state

  by_cases h5 : op = 20
  · rw [show calV op x y = chkV (numV (x.tmod y)) from ((((if_neg h1).trans (if_neg h2)).trans (if_neg h3)).trans (if_neg h4)).trans (if_pos h5)]
    refine Fn_of _ _ Tryz.func140 rfl Tryz.ntmps140 rfl fun c => ?_
    repeat' (first | (refine O_ev WideF.wide rfl (Ev_rem rfl rfl (by omega)) rfl rfl ?_) | (refine O_ef rfl (Ef_call (I := []) WideF.wide (number_fn (n := _)) ⟨rfl, trivial⟩ rfl ?_); rintro v1 H1 I1 hle1 ⟨rfl, rfl⟩) | (refine O_ef rfl (Ef_call (I := []) WideF.wide (checked_fn (x := numV _) (by simp [numV])) ⟨rfl, trivial⟩ rfl ?_); rintro v2 H2 I2 hle2 ⟨rfl, rfl⟩) | refine O_nil ?_ | refine A_seq ?_ | refine A_region ?_ | refine A_ret ?_ | refine A_block ?_ | (show opsA _ _ _ _ _ _ _; first | (refine O_split rfl rfl (fun h => ?_) (fun h => ?_) <;> try (exfalso; omega)) | refine O_ev WideF.wide rfl (Ev_pure rfl) rfl rfl ?_ | (show opsA _ _ _ _ (⟨_, .alloc _, _, _, _, _⟩ :: _) _ _; (refine O_ef rfl (Ef_alloc WideF.wide rfl ?_); intro b)) | (show opsA _ _ _ _ (⟨_, .store _ _ _, _, _, _, _⟩ :: _) _ _; refine O_ef rfl (Ef_storew WideF.wide rfl rfl rfl rfl rfl ?_))) | (show wpA _ _ _ (.cond _ _ _) _ _ _ _; (refine A_if rfl (fun h => ?_) (fun h => ?_) <;> try (exfalso; omega))))
    all_goals first
      | (exfalso; omega)
      | (exfalso; contradiction)
      | (exfalso; exact absurd trivial (by assumption))
      | (exfalso; exact absurd rfl (by assumption))
      | exact End_e (RetC2 (i := 0) rfl rfl rfl rfl rfl) ⟨rfl, rfl⟩
      | trace_state

  have habs : x ≠ 0 → absI x ≠ 0 := absI_ne hx
  by_cases h6 : x ≠ 0 ∧ w64 ((1099511627776 : Int).tdiv (absI x)) < absI y
  · rw [show calV op x y = (zV, 29) from (((((if_neg h1).trans (if_neg h2)).trans (if_neg h3)).trans (if_neg h4)).trans (if_neg h5)).trans (if_pos h6)]
    have h7 := habs h6.1
    have h8 := h6.2
    refine Fn_of _ _ Tryz.func140 rfl Tryz.ntmps140 rfl fun c => ?_
    repeat' (first | (refine O_ev WideF.wide rfl (Ev_quo rfl rfl h7 rfl) rfl rfl ?_) | (refine O_ev WideF.wide rfl (Ev_mul rfl rfl rfl) rfl rfl ?_) | (refine O_ev WideF.wide rfl (Ev_neg rfl rfl) rfl rfl ?_) | (refine O_ef rfl (Ef_call (I := []) WideF.wide (number_fn (n := _)) ⟨rfl, trivial⟩ rfl ?_); rintro v1 H1 I1 hle1 ⟨rfl, rfl⟩) | (refine O_ef rfl (Ef_call (I := []) WideF.wide (checked_fn (x := numV _) (by simp [numV])) ⟨rfl, trivial⟩ rfl ?_); rintro v2 H2 I2 hle2 ⟨rfl, rfl⟩) | refine O_nil ?_ | refine A_seq ?_ | refine A_region ?_ | refine A_skip ?_ | refine A_ret ?_ | refine A_block ?_ | (show opsA _ _ _ _ _ _ _; first | (refine O_split rfl rfl (fun h => ?_) (fun h => ?_) <;> try (exfalso; omega)) | refine O_ev WideF.wide rfl (Ev_pure rfl) rfl rfl ?_ | (show opsA _ _ _ _ (⟨_, .call _, _, _, _, _⟩ :: _) _ _; refine O_ev WideF.wide rfl (Ev_maxi rfl rfl) rfl rfl ?_) | (show opsA _ _ _ _ (⟨_, .build _ _, _, _, _, _⟩ :: _) _ _; refine O_ev WideF.wide rfl (Ev_build (vs := []) trivial rfl) rfl rfl ?_) | (show opsA _ _ _ _ (⟨_, .alloc _, _, _, _, _⟩ :: _) _ _; (refine O_ef rfl (Ef_alloc WideF.wide rfl ?_); intro b)) | (show opsA _ _ _ _ (⟨_, .store _ _ _, _, _, _, _⟩ :: _) _ _; refine O_ef rfl (Ef_storew WideF.wide rfl rfl rfl rfl rfl ?_)) | refine O_skip WideF.wide rfl rfl rfl ?_) | (show wpA _ _ _ (.cond _ _ _) _ _ _ _; first | (refine A_if rfl (fun h => ?_) (fun h => ?_) <;> try (exfalso; omega)) | refine A_iffalse rfl ?_))
    all_goals first
      | (exfalso; omega)
      | (exfalso; contradiction)
      | (exfalso; exact absurd trivial (by assumption))
      | (exfalso; exact absurd rfl (by assumption))
      | exact End_e (RetC2 (i := 0) rfl rfl rfl rfl rfl) ⟨rfl, rfl⟩
      | trace_state
  · rw [show calV op x y = chkV (numV (w64 (x * y))) from (((((if_neg h1).trans (if_neg h2)).trans (if_neg h3)).trans (if_neg h4)).trans (if_neg h5)).trans (if_neg h6)]
    by_cases h0 : x = 0
    · refine Fn_of _ _ Tryz.func140 rfl Tryz.ntmps140 rfl fun c => ?_
      repeat' (first | (refine O_ev WideF.wide rfl (Ev_mul rfl rfl rfl) rfl rfl ?_) | (refine O_ef rfl (Ef_call (I := []) WideF.wide (number_fn (n := _)) ⟨rfl, trivial⟩ rfl ?_); rintro v1 H1 I1 hle1 ⟨rfl, rfl⟩) | (refine O_ef rfl (Ef_call (I := []) WideF.wide (checked_fn (x := numV _) (by simp [numV])) ⟨rfl, trivial⟩ rfl ?_); rintro v2 H2 I2 hle2 ⟨rfl, rfl⟩) | refine O_nil ?_ | refine A_seq ?_ | refine A_region ?_ | refine A_skip ?_ | refine A_ret ?_ | refine A_block ?_ | (show opsA _ _ _ _ _ _ _; first | (refine O_split rfl rfl (fun h => ?_) (fun h => ?_) <;> try (exfalso; omega)) | refine O_ev WideF.wide rfl (Ev_pure rfl) rfl rfl ?_ | (show opsA _ _ _ _ (⟨_, .alloc _, _, _, _, _⟩ :: _) _ _; (refine O_ef rfl (Ef_alloc WideF.wide rfl ?_); intro b)) | (show opsA _ _ _ _ (⟨_, .store _ _ _, _, _, _, _⟩ :: _) _ _; refine O_ef rfl (Ef_storew WideF.wide rfl rfl rfl rfl rfl ?_)) | refine O_skip WideF.wide rfl rfl rfl ?_) | (show wpA _ _ _ (.cond _ _ _) _ _ _ _; first | (refine A_if rfl (fun h => ?_) (fun h => ?_) <;> try (exfalso; omega)) | refine A_iffalse rfl ?_))
      all_goals first
        | (exfalso; omega)
        | (exfalso; contradiction)
        | (exfalso; exact absurd trivial (by assumption))
        | (exfalso; exact absurd rfl (by assumption))
        | exact End_e (RetC2 (i := 0) rfl rfl rfl rfl rfl) ⟨rfl, rfl⟩
        | trace_state
    · have h7 := habs h0
      have h8 : ¬ w64 ((1099511627776 : Int).tdiv (absI x)) < absI y := fun h => h6 ⟨h0, h⟩
      refine Fn_of _ _ Tryz.func140 rfl Tryz.ntmps140 rfl fun c => ?_
      repeat' (first | (refine O_ev WideF.wide rfl (Ev_quo rfl rfl h7 rfl) rfl rfl ?_) | (refine O_ev WideF.wide rfl (Ev_mul rfl rfl rfl) rfl rfl ?_) | (refine O_ev WideF.wide rfl (Ev_neg rfl rfl) rfl rfl ?_) | (refine O_ef rfl (Ef_call (I := []) WideF.wide (number_fn (n := _)) ⟨rfl, trivial⟩ rfl ?_); rintro v1 H1 I1 hle1 ⟨rfl, rfl⟩) | (refine O_ef rfl (Ef_call (I := []) WideF.wide (checked_fn (x := numV _) (by simp [numV])) ⟨rfl, trivial⟩ rfl ?_); rintro v2 H2 I2 hle2 ⟨rfl, rfl⟩) | refine O_nil ?_ | refine A_seq ?_ | refine A_region ?_ | refine A_skip ?_ | refine A_ret ?_ | refine A_block ?_ | (show opsA _ _ _ _ _ _ _; first | (refine O_split rfl rfl (fun h => ?_) (fun h => ?_) <;> try (exfalso; omega)) | refine O_ev WideF.wide rfl (Ev_pure rfl) rfl rfl ?_ | (show opsA _ _ _ _ (⟨_, .call _, _, _, _, _⟩ :: _) _ _; refine O_ev WideF.wide rfl (Ev_maxi rfl rfl) rfl rfl ?_) | (show opsA _ _ _ _ (⟨_, .build _ _, _, _, _, _⟩ :: _) _ _; refine O_ev WideF.wide rfl (Ev_build (vs := []) trivial rfl) rfl rfl ?_) | (show opsA _ _ _ _ (⟨_, .alloc _, _, _, _, _⟩ :: _) _ _; (refine O_ef rfl (Ef_alloc WideF.wide rfl ?_); intro b)) | (show opsA _ _ _ _ (⟨_, .store _ _ _, _, _, _, _⟩ :: _) _ _; refine O_ef rfl (Ef_storew WideF.wide rfl rfl rfl rfl rfl ?_)) | refine O_skip WideF.wide rfl rfl rfl ?_) | (show wpA _ _ _ (.cond _ _ _) _ _ _ _; first | (refine A_if rfl (fun h => ?_) (fun h => ?_) <;> try (exfalso; omega)) | refine A_iffalse rfl ?_))
      all_goals first
        | (exfalso; omega)
        | (exfalso; contradiction)
        | (exfalso; exact absurd trivial (by assumption))
        | (exfalso; exact absurd rfl (by assumption))
        | exact End_e (RetC2 (i := 0) rfl rfl rfl rfl rfl) ⟨rfl, rfl⟩
        | trace_state
end Go.Proofs.YtnoadopmeoohmaaGreatDoor
