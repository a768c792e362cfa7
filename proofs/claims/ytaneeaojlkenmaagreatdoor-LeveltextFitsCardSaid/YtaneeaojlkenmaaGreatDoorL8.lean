/-
  Parts: equality, tests, the numeral of a placeholder; what the law turns. Printed by genL8.py.
-/
import Derived.Test.YtaneeaojlkenmaaGreatDoorL7
import Derived.Test.YtaneeaojlkenmaaGreatDoorL5
namespace Go.Proofs.YtaneeaojlkenmaaGreatDoor
open Go
set_option linter.unusedVariables false
set_option linter.unusedSimpArgs false
theorem run_equalIn_str (P : Program) (w : World) (m : Nat) (t : TypeId) (x y : List UInt8) (ht : P.underlying t = some .string) : (Op.equalIn (m + 1) t (sv x) (sv y)).run P w = .ok (decide (x = y)) w := by
  rw [run_equalIn_string w m t ⟨x.toArray⟩ ⟨y.toArray⟩ ht, ByteArray.toList_mk, ByteArray.toList_mk]
  congr 1
  rw [Bool.eq_iff_iff]; simp

theorem eq_part (p q : Pt) : ∀ w, (Op.equalIn 10000 63 (.agg (prow p).toArray) (.agg (prow q).toArray)).run Tryz.prog w = .ok (decide (p = q)) w := fun w => by
  have key : ∀ m : Nat, (Op.equalIn (m + 2) 63 (.agg (prow p).toArray) (.agg (prow q).toArray)).run Tryz.prog w = .ok (decide (p = q)) w := fun m => by
    obtain ⟨a, b, h⟩ := p
    obtain ⟨a', b', h'⟩ := q
    unfold prow
    have hf := fieldsOf_of Tryz.underlying63
    rw [run_equalIn_agg (P := Tryz.prog) w (m + 1) _ _ _ (by rw [hf]; exact Tryz.underlying63) Tryz.stoodInHeld63, hf]
    have h1 := fun x y : Int => run_equalIn_int (P := Tryz.prog) w m 3 .i64 .i64 x y Tryz.underlying3
    have h2 := fun x y : Bool => run_equalIn_bool' (P := Tryz.prog) w m 4 x y Tryz.underlying4
    have h3 := fun x y : List UInt8 => run_equalIn_str Tryz.prog w m 9 x y Tryz.underlying9
    simp [Op.eqFields, part, Tryz.isAgg3, Tryz.isAgg4, Tryz.isAgg9, h1, h2, h3]
    by_cases e1 : a = a' <;> by_cases e2 : b = b' <;> by_cases e3 : h = h' <;> simp [e1, e2, e3]
  exact key 9998
theorem eq_rpart (p q : Pt) : ∀ w, (Op.equalIn 10000 61 (.agg (prow p).toArray) (.agg (prow q).toArray)).run Tryz.prog w = .ok (decide (p = q)) w := fun w => by
  have key : ∀ m : Nat, (Op.equalIn (m + 2) 61 (.agg (prow p).toArray) (.agg (prow q).toArray)).run Tryz.prog w = .ok (decide (p = q)) w := fun m => by
    obtain ⟨a, b, h⟩ := p
    obtain ⟨a', b', h'⟩ := q
    unfold prow
    have hf := fieldsOf_of Tryz.underlying61
    rw [run_equalIn_agg (P := Tryz.prog) w (m + 1) _ _ _ (by rw [hf]; exact Tryz.underlying61) Tryz.stoodInHeld61, hf]
    have h1 := fun x y : Int => run_equalIn_int (P := Tryz.prog) w m 3 .i64 .i64 x y Tryz.underlying3
    have h2 := fun x y : Bool => run_equalIn_bool' (P := Tryz.prog) w m 4 x y Tryz.underlying4
    have h3 := fun x y : List UInt8 => run_equalIn_str Tryz.prog w m 9 x y Tryz.underlying9
    simp [Op.eqFields, part, Tryz.isAgg3, Tryz.isAgg4, Tryz.isAgg9, h1, h2, h3]
    by_cases e1 : a = a' <;> by_cases e2 : b = b' <;> by_cases e3 : h = h' <;> simp [e1, e2, e3]
  exact key 9998
attribute [local irreducible] wpA opsA drJ drQ drE Ef Ev Shift Fn
abbrev seqSt (H : Hp) (a : Option Addr) (n c : Nat) (a' : Option Addr) (n' c' : Nat) (i : Nat) : Sta := ⟨26, [(0, .slice a n c), (1, .slice a' n' c'), (4, .bool false), (11, .slice a n c), (12, .int .i64 n), (13, .int .i64 i)], H, [], [], []⟩
abbrev seqSu (H : Hp) (a : Option Addr) (n c : Nat) (a' : Option Addr) (n' c' : Nat) (i : Nat) : Sta := ⟨26, [(0, .slice a n c), (1, .slice a' n' c'), (4, .bool false), (5, .int .i64 i)], H, [], [], []⟩
set_option maxRecDepth 100000 in
theorem EqualP_fn {H : Hp} {a : Option Addr} {n cq : Nat} {a' : Option Addr} {n' cq' : Nat} {l l' : List Pt} (hx : HRow H a n cq 3 (l.map prow)) (hx' : HRow H a' n' cq' 3 (l'.map prow)) (hm : n < 68719476736) : FnP Tryz.prog 52 [.slice a n cq, .slice a' n' cq'] H (.bool (decide (l = l'))) := by
  have e1 : l.length = n := by have := hx.len; simpa using this
  have e2 : l'.length = n' := by have := hx'.len; simpa using this
  have no : ∀ {q : Prop}, ¬ q → (l = l' → q) → decide (l = l') = false := fun hq hh => decide_eq_false fun e => hq (hh e)
  refine Fn_of _ _ Tryz.func52 rfl Tryz.ntmps52 rfl fun c => ?_
  repeat' (first | refine O_nil ?_ | refine A_seq ?_ | refine A_region ?_ | refine A_skip ?_ | refine A_ret ?_ | refine A_block ?_ | (show opsA _ _ _ _ _ _ _; first | refine O_ev WideF.wide rfl (Ev_pure rfl) rfl rfl ?_ | (show opsA _ _ _ _ (⟨_, .call _, _, _, _, _⟩ :: _) _ _; refine O_ev WideF.wide rfl (Ev_llen rfl) rfl rfl ?_)) | (show wpA _ _ _ (.cond _ _ _) _ _ _ _; (refine A_if rfl (fun h => ?_) (fun h => ?_) <;> try (exfalso; omega))))
  · (refine End_p (Ret1 rfl rfl) ?_)
    rw [no (show ¬ n = n' by omega) (fun e => by subst e; omega)]
  · refine A_loopu (fun m s => ∃ i : Nat, m = n - i ∧ i ≤ n ∧ (∀ j, j < i → l[j]? = l'[j]?) ∧ s = seqSt H a n cq a' n' cq' i) ?_ ?_
    · exact Shift.to ⟨_, 0, rfl, by omega, fun j hj => absurd hj (by omega), rfl⟩ ⟨rfl, rfl, rfl, ⟨rfl, rfl, rfl, rfl, rfl, rfl, trivial⟩, Own.sub_nil _⟩
    · rintro m s ⟨i, rfl, hi, hall, rfl⟩
      by_cases hlt : i < n
      · obtain ⟨b, o, y, rfl, hyi, hc⟩ := hx.atm i hlt
        obtain ⟨b', o', y', rfl, hyi', hc'⟩ := hx'.atm i (by omega)
        have hxx : l = l' → y = y' := fun e => by subst e; rw [hyi] at hyi'; exact Option.some.inj hyi'
        repeat' (first | (refine A_drawi WideF.wide (.q 0 (.q 1 (.q 2 (.q 3 (.q 4 (.q 5 (.q 6 (.q 7 (.q 8 (.done [])))))))))) [] [] [] (by decide +kernel) (by decide) rfl ?_; simp only [Own.picks, Own.rget, List.cons_append, List.nil_append, List.append_nil]) | (refine D_ev rfl (Ev_loadH rfl hc rfl) rfl rfl ?_) | (refine D_ev rfl (Ev_loadH rfl hc' rfl) rfl rfl ?_) | (refine D_ev rfl (Ev_neS rfl rfl Tryz.eqGuardType63 (eq_part _ _)) rfl rfl ?_) | refine O_nil ?_ | refine A_seq ?_ | refine A_region ?_ | refine A_skip ?_ | refine A_ret ?_ | refine A_block ?_ | (show drJ _ _ _ _ _ _ _ (.q _ _) _; refine D_q rfl ?_) | (show drJ _ _ _ _ _ _ _ (.done _) _; refine D_done ?_; simp only [List.cons_append, List.nil_append]) | (show drQ _ _ _ _ _ _; first | refine D_ev rfl (Ev_pure rfl) rfl rfl ?_ | (show drQ _ _ _ ⟨_, .indexAddr _ _ _, _, _, _, _⟩ _ _; refine D_ev rfl (Ev_indexAddr rfl rfl (by omega) (by omega)) rfl rfl ?_)) | (show opsA _ _ _ _ _ _ _; first | refine O_ev WideF.wide rfl (Ev_pure rfl) rfl rfl ?_ | (show opsA _ _ _ _ (⟨_, .binOp _ _ _ _ _, _, _, _, _⟩ :: _) _ _; refine O_ev WideF.wide rfl (Ev_add rfl rfl (wi64 (by omega))) rfl rfl ?_)) | (show wpA _ _ _ (.cond _ _ _) _ _ _ _; (refine A_if rfl (fun h => ?_) (fun h => ?_) <;> try (exfalso; omega))))
        · (refine End_p (Ret1 rfl rfl) ?_)
          rw [no (by assumption) hxx]
        · refine Shift.to ⟨_, ?_, i + 1, rfl, by omega, fun j hj => ?_, rfl⟩ ⟨rfl, rfl, rfl, ⟨rfl, rfl, rfl, rfl, rfl, rfl, trivial⟩, Own.sub_nil _⟩
          · omega
          · by_cases hji : j = i
            · subst hji
              rw [hyi, hyi']
              congr 1
              exact Classical.byContradiction (by assumption)
            · exact hall j (by omega)
      · repeat' (first | refine O_nil ?_ | refine A_seq ?_ | refine A_region ?_ | refine A_ret ?_ | (show opsA _ _ _ _ _ _ _; refine O_ev WideF.wide rfl (Ev_pure rfl) rfl rfl ?_) | (show wpA _ _ _ (.exit _) _ _ _ _; refine A_exit rfl ?_) | (show wpA _ _ _ (.cond _ _ _) _ _ _ _; (refine A_if rfl (fun h => ?_) (fun h => ?_) <;> try (exfalso; omega))))
        (refine End_p (Ret1 rfl rfl) ?_)
        rw [decide_eq_true]
        exact list_ext (by omega) fun j hj => hall j (by omega)
set_option maxRecDepth 100000 in
theorem Same_fn {H : Hp} {a : Option Addr} {n cq : Nat} {a' : Option Addr} {n' cq' : Nat} {l l' : List Pt} (hx : HRow H a n cq 3 (l.map prow)) (hx' : HRow H a' n' cq' 3 (l'.map prow)) (hm : n < 68719476736) : FnP Tryz.prog 17 [.slice a n cq, .slice a' n' cq'] H (.bool (decide (l = l'))) := by
  have e1 : l.length = n := by have := hx.len; simpa using this
  have e2 : l'.length = n' := by have := hx'.len; simpa using this
  have no : ∀ {q : Prop}, ¬ q → (l = l' → q) → decide (l = l') = false := fun hq hh => decide_eq_false fun e => hq (hh e)
  refine Fn_of _ _ Tryz.func17 rfl Tryz.ntmps17 rfl fun c => ?_
  repeat' (first | refine O_nil ?_ | refine A_seq ?_ | refine A_region ?_ | refine A_skip ?_ | refine A_ret ?_ | refine A_block ?_ | (show opsA _ _ _ _ _ _ _; first | refine O_ev WideF.wide rfl (Ev_pure rfl) rfl rfl ?_ | (show opsA _ _ _ _ (⟨_, .call _, _, _, _, _⟩ :: _) _ _; refine O_ev WideF.wide rfl (Ev_llen rfl) rfl rfl ?_)) | (show wpA _ _ _ (.cond _ _ _) _ _ _ _; (refine A_if rfl (fun h => ?_) (fun h => ?_) <;> try (exfalso; omega))))
  · (refine End_p (Ret1 rfl rfl) ?_)
    rw [no (show ¬ n = n' by omega) (fun e => by subst e; omega)]
  · refine A_loopu (fun m s => ∃ i : Nat, m = n - i ∧ i ≤ n ∧ (∀ j, j < i → l[j]? = l'[j]?) ∧ s = seqSu H a n cq a' n' cq' i) ?_ ?_
    · exact Shift.to ⟨_, 0, rfl, by omega, fun j hj => absurd hj (by omega), rfl⟩ ⟨rfl, rfl, rfl, ⟨rfl, rfl, rfl, rfl, trivial⟩, Own.sub_nil _⟩
    · rintro m s ⟨i, rfl, hi, hall, rfl⟩
      by_cases hlt : i < n
      · obtain ⟨b, o, y, rfl, hyi, hc⟩ := hx.atm i hlt
        obtain ⟨b', o', y', rfl, hyi', hc'⟩ := hx'.atm i (by omega)
        have hxx : l = l' → y = y' := fun e => by subst e; rw [hyi] at hyi'; exact Option.some.inj hyi'
        repeat' (first | (refine A_drawi WideF.wide (.q 0 (.q 1 (.q 2 (.q 3 (.q 4 (.q 5 (.q 6 (.q 7 (.q 8 (.done [])))))))))) [] [] [] (by decide +kernel) (by decide) rfl ?_; simp only [Own.picks, Own.rget, List.cons_append, List.nil_append, List.append_nil]) | (refine D_ev rfl (Ev_loadH rfl hc rfl) rfl rfl ?_) | (refine D_ev rfl (Ev_loadH rfl hc' rfl) rfl rfl ?_) | (refine D_ev rfl (Ev_neS rfl rfl Tryz.eqGuardType61 (eq_rpart _ _)) rfl rfl ?_) | refine O_nil ?_ | refine A_seq ?_ | refine A_region ?_ | refine A_skip ?_ | refine A_ret ?_ | refine A_block ?_ | (show drJ _ _ _ _ _ _ _ (.q _ _) _; refine D_q rfl ?_) | (show drJ _ _ _ _ _ _ _ (.done _) _; refine D_done ?_; simp only [List.cons_append, List.nil_append]) | (show drQ _ _ _ _ _ _; first | refine D_ev rfl (Ev_pure rfl) rfl rfl ?_ | (show drQ _ _ _ ⟨_, .indexAddr _ _ _, _, _, _, _⟩ _ _; refine D_ev rfl (Ev_indexAddr rfl rfl (by omega) (by omega)) rfl rfl ?_)) | (show opsA _ _ _ _ _ _ _; first | refine O_ev WideF.wide rfl (Ev_pure rfl) rfl rfl ?_ | (show opsA _ _ _ _ (⟨_, .call _, _, _, _, _⟩ :: _) _ _; refine O_ev WideF.wide rfl (Ev_llen rfl) rfl rfl ?_) | (show opsA _ _ _ _ (⟨_, .binOp _ _ _ _ _, _, _, _, _⟩ :: _) _ _; refine O_ev WideF.wide rfl (Ev_add rfl rfl (wi64 (by omega))) rfl rfl ?_)) | (show wpA _ _ _ (.cond _ _ _) _ _ _ _; (refine A_if rfl (fun h => ?_) (fun h => ?_) <;> try (exfalso; omega))))
        · (refine End_p (Ret1 rfl rfl) ?_)
          rw [no (by assumption) hxx]
        · refine Shift.to ⟨_, ?_, i + 1, rfl, by omega, fun j hj => ?_, rfl⟩ ⟨rfl, rfl, rfl, ⟨rfl, rfl, rfl, rfl, trivial⟩, Own.sub_nil _⟩
          · omega
          · by_cases hji : j = i
            · subst hji
              rw [hyi, hyi']
              congr 1
              exact Classical.byContradiction (by assumption)
            · exact hall j (by omega)
      · repeat' (first | refine O_nil ?_ | refine A_seq ?_ | refine A_region ?_ | refine A_ret ?_ | (show opsA _ _ _ _ _ _ _; first | refine O_ev WideF.wide rfl (Ev_pure rfl) rfl rfl ?_ | (show opsA _ _ _ _ (⟨_, .call _, _, _, _, _⟩ :: _) _ _; refine O_ev WideF.wide rfl (Ev_llen rfl) rfl rfl ?_)) | (show wpA _ _ _ (.exit _) _ _ _ _; refine A_exit rfl ?_) | (show wpA _ _ _ (.cond _ _ _) _ _ _ _; (refine A_if rfl (fun h => ?_) (fun h => ?_) <;> try (exfalso; omega))))
        (refine End_p (Ret1 rfl rfl) ?_)
        rw [decide_eq_true]
        exact list_ext (by omega) fun j hj => hall j (by omega)
/-- a test of parts by a closure that has captured one variable -/
def TestIs (g : FuncId) (H : Hp) (b : Nat) (Q : Pt → Prop) [DecidablePred Q] : Prop := ∀ p : Pt, FnP Tryz.prog g [.agg (prow p).toArray, ptr b] H (.bool (decide (Q p)))
set_option maxRecDepth 100000 in
theorem IndexP_fn {H : Hp} {g : FuncId} [hg : FunC Tryz.prog g] {b1 : Nat} {Q : Pt → Prop} [DecidablePred Q] (hQ : TestIs g H b1 Q) {a : Option Addr} {n cq : Nat} {l : List Pt} (hx : HRow H a n cq 3 (l.map prow)) (hm : n < 68719476736) :
    Fn Tryz.prog 62 [.slice a n cq, .func (.func g) #[] #[ptr b1]] H [] fun v H' I' => (∃ r : Int, v = .int .i64 r ∧ (0 ≤ r ↔ ∃ p ∈ l, Q p)) ∧ H' = H ∧ I' = [] := by
  have e1 : l.length = n := by have := hx.len; simpa using this
  refine Fn_of _ _ Tryz.func62 rfl Tryz.ntmps62 rfl fun c => ?_
  repeat' (first | refine O_nil ?_ | refine A_seq ?_ | refine A_region ?_ | refine A_block ?_ | (show opsA _ _ _ _ _ _ _; first | refine O_ev WideF.wide rfl (Ev_pure rfl) rfl rfl ?_ | (show opsA _ _ _ _ (⟨_, .call _, _, _, _, _⟩ :: _) _ _; refine O_ev WideF.wide rfl (Ev_llen rfl) rfl rfl ?_)))
  refine A_loopu (fun m s => ∃ i : Nat, m = n - i ∧ i ≤ n ∧ ((∃ p ∈ l, Q p) ↔ ∃ p ∈ l.drop i, Q p) ∧ s = ⟨19, [(0, .slice a n cq), (1, .func (.func g) #[] #[ptr b1]), (7, .int .i64 n), (8, .int .i64 i)], H, [], [], []⟩) ?_ ?_
  · exact Shift.to ⟨_, 0, rfl, by omega, by rw [List.drop_zero], rfl⟩ ⟨rfl, rfl, rfl, ⟨rfl, rfl, rfl, rfl, trivial⟩, Own.sub_nil _⟩
  · rintro m s ⟨i, rfl, hi, hall, rfl⟩
    by_cases hlt : i < n
    · obtain ⟨b, o, y, rfl, hyi, hc⟩ := hx.atm i hlt
      have hd : l.drop i = y :: l.drop (i + 1) := by
        obtain ⟨hlt', e⟩ := List.getElem?_eq_some_iff.1 hyi
        rw [List.drop_eq_getElem_cons hlt', e]
      rw [hd] at hall
      have hq := hQ y
      by_cases hyy : Q y
      · rw [decide_eq_true hyy] at hq
        repeat' (first | (refine O_ev WideF.wide rfl (Ev_loadH rfl hc rfl) rfl rfl ?_) | (refine O_ef rfl (Ef_callcp (args := [_]) (caps := [ptr b1]) WideF.wide hq rfl ⟨rfl, trivial⟩ rfl ?_)) | refine O_nil ?_ | refine A_seq ?_ | refine A_region ?_ | refine A_skip ?_ | refine A_ret ?_ | refine A_block ?_ | (show opsA _ _ _ _ _ _ _; first | refine O_ev WideF.wide rfl (Ev_pure rfl) rfl rfl ?_ | (show opsA _ _ _ _ (⟨_, .indexAddr _ _ _, _, _, _, _⟩ :: _) _ _; refine O_ev WideF.wide rfl (Ev_indexAddr rfl rfl (by omega) (by omega)) rfl rfl ?_)) | (show wpA _ _ _ (.cond _ _ _) _ _ _ _; first | (refine A_if rfl (fun h => ?_) (fun h => ?_) <;> try (exfalso; omega)) | refine A_iftrue rfl ?_))
        exact End_e (Ret1 rfl rfl) ⟨⟨_, rfl, ⟨fun _ => hall.2 ⟨y, by simp, hyy⟩, fun _ => by omega⟩⟩, rfl, rfl⟩
      · rw [decide_eq_false hyy] at hq
        repeat' (first | (refine O_ev WideF.wide rfl (Ev_loadH rfl hc rfl) rfl rfl ?_) | (refine O_ef rfl (Ef_callcp (args := [_]) (caps := [ptr b1]) WideF.wide hq rfl ⟨rfl, trivial⟩ rfl ?_)) | refine O_nil ?_ | refine A_seq ?_ | refine A_region ?_ | refine A_skip ?_ | refine A_block ?_ | (show opsA _ _ _ _ _ _ _; first | refine O_ev WideF.wide rfl (Ev_pure rfl) rfl rfl ?_ | (show opsA _ _ _ _ (⟨_, .indexAddr _ _ _, _, _, _, _⟩ :: _) _ _; refine O_ev WideF.wide rfl (Ev_indexAddr rfl rfl (by omega) (by omega)) rfl rfl ?_) | (show opsA _ _ _ _ (⟨_, .binOp _ _ _ _ _, _, _, _, _⟩ :: _) _ _; refine O_ev WideF.wide rfl (Ev_add rfl rfl (wi64 (by omega))) rfl rfl ?_)) | (show wpA _ _ _ (.cond _ _ _) _ _ _ _; first | (refine A_if rfl (fun h => ?_) (fun h => ?_) <;> try (exfalso; omega)) | refine A_iffalse rfl ?_))
        refine Shift.to ⟨_, ?_, i + 1, rfl, by omega, hall.trans ⟨?_, ?_⟩, rfl⟩ ⟨rfl, rfl, rfl, ⟨rfl, rfl, rfl, rfl, trivial⟩, Own.sub_nil _⟩
        · omega
        · rintro ⟨p, hp, h⟩
          rcases List.mem_cons.1 hp with rfl | hp
          · exact absurd h hyy
          · exact ⟨p, hp, h⟩
        · rintro ⟨p, hp, h⟩; exact ⟨p, List.mem_cons_of_mem _ hp, h⟩
    · rw [List.drop_eq_nil_of_le (by omega)] at hall
      repeat' (first | refine O_nil ?_ | refine A_seq ?_ | refine A_region ?_ | refine A_ret ?_ | (show opsA _ _ _ _ _ _ _; refine O_ev WideF.wide rfl (Ev_pure rfl) rfl rfl ?_) | (show wpA _ _ _ (.exit _) _ _ _ _; refine A_exit rfl ?_) | (show wpA _ _ _ (.cond _ _ _) _ _ _ _; (refine A_if rfl (fun h => ?_) (fun h => ?_) <;> try (exfalso; omega))))
      exact End_e (Ret1 rfl rfl) ⟨⟨_, rfl, ⟨fun h => absurd h (by decide), fun h => by obtain ⟨_, h, _⟩ := hall.1 h; cases h⟩⟩, rfl, rfl⟩
set_option maxRecDepth 100000 in
theorem ContainsP_fn {H : Hp} {g : FuncId} [hg : FunC Tryz.prog g] {b1 : Nat} {Q : Pt → Prop} [DecidablePred Q] (hQ : TestIs g H b1 Q) {a : Option Addr} {n cq : Nat} {l : List Pt} (hx : HRow H a n cq 3 (l.map prow)) (hm : n < 68719476736) :
    FnP Tryz.prog 42 [.slice a n cq, .func (.func g) #[] #[ptr b1]] H (.bool (decide (∃ p ∈ l, Q p))) := by
  have hi := IndexP_fn hQ hx hm
  refine Fn_of _ _ Tryz.func42 rfl Tryz.ntmps42 rfl fun c => ?_
  repeat' (first | (refine O_ef rfl (Ef_call (I := []) WideF.wide hi ⟨rfl, rfl, trivial⟩ rfl ?_); rintro v H' I' hk ⟨⟨r, rfl, hr⟩, rfl, rfl⟩) | refine O_nil ?_ | refine A_seq ?_ | refine A_region ?_ | refine A_ret ?_ | (show opsA _ _ _ _ _ _ _; refine O_ev WideF.wide rfl (Ev_pure rfl) rfl rfl ?_))
  refine End_p (Ret1 rfl rfl) ?_
  congr 1
  rw [decide_eq_decide]
  exact hr
set_option maxRecDepth 100000 in
theorem above_fn {H : Hp} {b1 : Nat} {q : Int} (hb : H b1 0 = some (.int .i64 q)) : TestIs 43 H b1 (fun p => q < p.lev) := fun p => by
  unfold prow
  refine Fn_of _ _ Tryz.func43 rfl Tryz.ntmps43 rfl fun c => ?_
  repeat' (first | (refine O_ev WideF.wide rfl (Ev_loadH1 rfl hb) rfl rfl ?_) | refine O_nil ?_ | refine A_seq ?_ | refine A_region ?_ | refine A_ret ?_ | (show opsA _ _ _ _ _ _ _; first | refine O_ev WideF.wide rfl (Ev_pure rfl) rfl rfl ?_ | (show opsA _ _ _ _ (⟨_, .load _ _, _, _, _, _⟩ :: _) _ _; refine O_ev WideF.wide rfl (Ev_loadB1 (i := 0) rfl rfl rfl) rfl rfl ?_) | (show opsA _ _ _ _ (⟨_, .fieldAddr _ _ _, _, _, _, _⟩ :: _) _ _; refine O_ev WideF.wide rfl (Ev_fieldAddr rfl rfl rfl) rfl rfl ?_) | (show opsA _ _ _ _ (⟨_, .box _ _, _, _, _, _⟩ :: _) _ _; (refine O_ef rfl (Ef_boxa WideF.wide rfl rfl ?_); intro b))))
  exact End_p (Ret1 rfl rfl) rfl
set_option maxRecDepth 100000 in
theorem same_fn {H : Hp} {b1 : Nat} {q : Int} (hb : H b1 0 = some (.int .i64 q)) : TestIs 91 H b1 (fun p => p.lev = q) := fun p => by
  unfold prow
  refine Fn_of _ _ Tryz.func91 rfl Tryz.ntmps91 rfl fun c => ?_
  repeat' (first | (refine O_ev WideF.wide rfl (Ev_loadH1 rfl hb) rfl rfl ?_) | refine O_nil ?_ | refine A_seq ?_ | refine A_region ?_ | refine A_ret ?_ | (show opsA _ _ _ _ _ _ _; first | refine O_ev WideF.wide rfl (Ev_pure rfl) rfl rfl ?_ | (show opsA _ _ _ _ (⟨_, .load _ _, _, _, _, _⟩ :: _) _ _; refine O_ev WideF.wide rfl (Ev_loadB1 (i := 0) rfl rfl rfl) rfl rfl ?_) | (show opsA _ _ _ _ (⟨_, .fieldAddr _ _ _, _, _, _, _⟩ :: _) _ _; refine O_ev WideF.wide rfl (Ev_fieldAddr rfl rfl rfl) rfl rfl ?_) | (show opsA _ _ _ _ (⟨_, .box _ _, _, _, _, _⟩ :: _) _ _; (refine O_ef rfl (Ef_boxa WideF.wide rfl rfl ?_); intro b))))
  exact End_p (Ret1 rfl rfl) rfl
set_option maxRecDepth 100000 in
theorem ldigits_fn {H : Hp} (hE : EnvH H) (f n : Int) (pl : Bool) : Fn Tryz.prog 46 [.int .i64 f, .int .i64 n, .bool pl] H [] fun v _ I => v = sv (digT f n pl) ∧ I = [] := by
  have h1 := Format_fn hE f n
  have h2 := fun Hx (hl : HLe H Hx) => Format_fn (hE.mono hl) 1 n
  unfold digT
  unfold fmtV at h1 h2
  by_cases e2 : (fmtE 1 n).2 = 0
  · cases pl with
    | true =>
      rw [if_neg (by simp), if_pos e2]
      refine Fn_of _ _ Tryz.func46 rfl Tryz.ntmps46 rfl fun c => ?_
      repeat' (first | (refine O_ef rfl (Ef_call (I := []) WideF.wide (h2 _ (HLe.refl _)) ⟨rfl, rfl, trivial⟩ rfl ?_); rintro v H1 I1 hle1 ⟨rfl, rfl⟩) | refine O_nil ?_ | refine A_seq ?_ | refine A_region ?_ | refine A_skip ?_ | refine A_ret ?_ | (show opsA _ _ _ _ _ _ _; first | refine O_ev WideF.wide rfl (Ev_pure rfl) rfl rfl ?_ | (show opsA _ _ _ _ (⟨_, .unOp _ _ _, _, _, _, _⟩ :: _) _ _; refine O_ev WideF.wide rfl (Ev_notb rfl) rfl rfl ?_)) | (show wpA _ _ _ (.cond _ _ _) _ _ _ _; first | (refine A_if rfl (fun h => ?_) (fun h => ?_) <;> try (exfalso; omega)) | refine A_iffalse rfl ?_))
      all_goals first
        | exact End_e (Ret1 rfl rfl) ⟨rfl, rfl⟩
        | (exfalso; contradiction)
    | false =>
      by_cases e1 : (fmtE f n).2 = 0
      · rw [if_pos ⟨rfl, e1⟩]
        refine Fn_of _ _ Tryz.func46 rfl Tryz.ntmps46 rfl fun c => ?_
        repeat' (first | (refine O_ef rfl (Ef_call (I := []) WideF.wide h1 ⟨rfl, rfl, trivial⟩ rfl ?_); rintro v H1 I1 hle1 ⟨rfl, rfl⟩) | refine O_nil ?_ | refine A_seq ?_ | refine A_region ?_ | refine A_ret ?_ | (show opsA _ _ _ _ _ _ _; first | refine O_ev WideF.wide rfl (Ev_pure rfl) rfl rfl ?_ | (show opsA _ _ _ _ (⟨_, .unOp _ _ _, _, _, _, _⟩ :: _) _ _; refine O_ev WideF.wide rfl (Ev_notb rfl) rfl rfl ?_)) | (show wpA _ _ _ (.cond _ _ _) _ _ _ _; first | (refine A_if rfl (fun h => ?_) (fun h => ?_) <;> try (exfalso; omega)) | refine A_iftrue rfl ?_))
        all_goals first
          | exact End_e (Ret1 rfl rfl) ⟨rfl, rfl⟩
          | (exfalso; contradiction)
      · rw [if_neg (fun h => e1 h.2), if_pos e2]
        refine Fn_of _ _ Tryz.func46 rfl Tryz.ntmps46 rfl fun c => ?_
        repeat' (first | (refine O_ef rfl (Ef_call (I := []) WideF.wide h1 ⟨rfl, rfl, trivial⟩ rfl ?_); rintro v H1 I1 hle1 ⟨rfl, rfl⟩) | (refine O_ef rfl (Ef_call (I := []) WideF.wide (h2 _ hle1) ⟨rfl, rfl, trivial⟩ rfl ?_); rintro v H2 I2 hle2 ⟨rfl, rfl⟩) | refine O_nil ?_ | refine A_seq ?_ | refine A_region ?_ | refine A_skip ?_ | refine A_ret ?_ | (show opsA _ _ _ _ _ _ _; first | refine O_ev WideF.wide rfl (Ev_pure rfl) rfl rfl ?_ | (show opsA _ _ _ _ (⟨_, .unOp _ _ _, _, _, _, _⟩ :: _) _ _; refine O_ev WideF.wide rfl (Ev_notb rfl) rfl rfl ?_)) | (show wpA _ _ _ (.cond _ _ _) _ _ _ _; first | (refine A_if rfl (fun h => ?_) (fun h => ?_) <;> try (exfalso; omega)) | refine A_iftrue rfl ?_))
        all_goals first
          | exact End_e (Ret1 rfl rfl) ⟨rfl, rfl⟩
          | (exfalso; contradiction)
  · cases pl with
    | true =>
      rw [if_neg (by simp), if_neg e2]
      refine Fn_of _ _ Tryz.func46 rfl Tryz.ntmps46 rfl fun c => ?_
      repeat' (first | (refine O_ef rfl (Ef_call (I := []) WideF.wide (h2 _ (HLe.refl _)) ⟨rfl, rfl, trivial⟩ rfl ?_); rintro v H1 I1 hle1 ⟨rfl, rfl⟩) | refine O_nil ?_ | refine A_seq ?_ | refine A_region ?_ | refine A_skip ?_ | refine A_ret ?_ | (show opsA _ _ _ _ _ _ _; first | refine O_ev WideF.wide rfl (Ev_pure rfl) rfl rfl ?_ | (show opsA _ _ _ _ (⟨_, .unOp _ _ _, _, _, _, _⟩ :: _) _ _; refine O_ev WideF.wide rfl (Ev_notb rfl) rfl rfl ?_)) | (show wpA _ _ _ (.cond _ _ _) _ _ _ _; first | (refine A_if rfl (fun h => ?_) (fun h => ?_) <;> try (exfalso; omega)) | refine A_iffalse rfl ?_))
      all_goals first
        | exact End_e (Ret1 rfl rfl) ⟨rfl, rfl⟩
        | (exfalso; contradiction)
    | false =>
      by_cases e1 : (fmtE f n).2 = 0
      · rw [if_pos ⟨rfl, e1⟩]
        refine Fn_of _ _ Tryz.func46 rfl Tryz.ntmps46 rfl fun c => ?_
        repeat' (first | (refine O_ef rfl (Ef_call (I := []) WideF.wide h1 ⟨rfl, rfl, trivial⟩ rfl ?_); rintro v H1 I1 hle1 ⟨rfl, rfl⟩) | refine O_nil ?_ | refine A_seq ?_ | refine A_region ?_ | refine A_ret ?_ | (show opsA _ _ _ _ _ _ _; first | refine O_ev WideF.wide rfl (Ev_pure rfl) rfl rfl ?_ | (show opsA _ _ _ _ (⟨_, .unOp _ _ _, _, _, _, _⟩ :: _) _ _; refine O_ev WideF.wide rfl (Ev_notb rfl) rfl rfl ?_)) | (show wpA _ _ _ (.cond _ _ _) _ _ _ _; first | (refine A_if rfl (fun h => ?_) (fun h => ?_) <;> try (exfalso; omega)) | refine A_iftrue rfl ?_))
        all_goals first
          | exact End_e (Ret1 rfl rfl) ⟨rfl, rfl⟩
          | (exfalso; contradiction)
      · rw [if_neg (fun h => e1 h.2), if_neg e2]
        refine Fn_of _ _ Tryz.func46 rfl Tryz.ntmps46 rfl fun c => ?_
        repeat' (first | (refine O_ef rfl (Ef_call (I := []) WideF.wide h1 ⟨rfl, rfl, trivial⟩ rfl ?_); rintro v H1 I1 hle1 ⟨rfl, rfl⟩) | (refine O_ef rfl (Ef_call (I := []) WideF.wide (h2 _ hle1) ⟨rfl, rfl, trivial⟩ rfl ?_); rintro v H2 I2 hle2 ⟨rfl, rfl⟩) | refine O_nil ?_ | refine A_seq ?_ | refine A_region ?_ | refine A_skip ?_ | refine A_ret ?_ | (show opsA _ _ _ _ _ _ _; first | refine O_ev WideF.wide rfl (Ev_pure rfl) rfl rfl ?_ | (show opsA _ _ _ _ (⟨_, .unOp _ _ _, _, _, _, _⟩ :: _) _ _; refine O_ev WideF.wide rfl (Ev_notb rfl) rfl rfl ?_)) | (show wpA _ _ _ (.cond _ _ _) _ _ _ _; first | (refine A_if rfl (fun h => ?_) (fun h => ?_) <;> try (exfalso; omega)) | refine A_iftrue rfl ?_))
        all_goals first
          | exact End_e (Ret1 rfl rfl) ⟨rfl, rfl⟩
          | (exfalso; contradiction)
/-! ### levels -/
structure Lv where
  fmt : Int
  start : Int
  tpl : List UInt8
  restart : Int
def lvrow (x : Lv) : List Value := [.int .i64 x.fmt, .int .i64 x.start, sv x.tpl, .int .i64 x.restart]
theorem lvrow_one (l : List Lv) : ∀ cs ∈ l.map lvrow, ∀ u ∈ cs, u.oneCell' = true := by
  intro cs hcs u hu
  obtain ⟨p, _, rfl⟩ := List.mem_map.1 hcs
  simp only [lvrow, List.mem_cons, List.not_mem_nil, or_false] at hu
  rcases hu with rfl | rfl | rfl | rfl <;> rfl
def fmts (l : List Lv) : List Int := l.map Lv.fmt
theorem fmtOf_at {l : List Lv} {p : Pt} {i : Nat} {x : Lv} (hi : i = (p.lev - 1).toNat) (hx : l[i]? = some x) : fmtOf (fmts l) p = x.fmt := by
  unfold fmtOf fmts
  rw [← hi]
  simp [List.getD, List.getElem?_map, hx]
/-- a part whose level there is -/
def PartIn (n : Nat) (p : Pt) : Prop := p.lev = 0 ∨ 1 ≤ p.lev ∧ p.lev ≤ n
theorem digT_gF (f n : Int) (pl : Bool) : digT f n pl = if (fmtE (gF f pl) n).2 = 0 then (fmtE (gF f pl) n).1 else if (fmtE 1 n).2 = 0 then (fmtE 1 n).1 else [63] := by
  unfold digT gF
  cases pl with
  | false => simp
  | true =>
    simp only [Bool.true_eq_false, false_and, if_false, if_true]
    split <;> rfl
set_option maxRecDepth 100000 in
set_option maxHeartbeats 1000000 in
theorem Numeral_fn {H : Hp} {a : Option Addr} {n cq : Nat} {l : List Lv} (hx : HRow H a n cq 4 (l.map lvrow)) (hm : n < 68719476736) {p : Pt} (hp : p.plain = false → 1 ≤ p.lev ∧ p.lev ≤ n) (v0 : Int) :
    Fn Tryz.prog 48 [.slice a n cq, .agg (prow p).toArray, .int .i64 v0] H [] fun v _ I => v = sv (digT (fmtOf (fmts l) p) v0 p.plain) ∧ I = [] := by
  have e1 : l.length = n := by have := hx.len; simpa using this
  rw [digT_gF]
  have h1 := fun Hx f => rFormat_fn (H := Hx) f v0
  unfold fmtV at h1
  obtain ⟨lit, lev, pl⟩ := p
  unfold prow
  dsimp only at hp ⊢
  cases pl with
  | true =>
    have hg : gF (fmtOf (fmts l) ⟨lit, lev, true⟩) true = 1 := rfl
    rw [hg]
    by_cases e2 : (fmtE 1 v0).2 = 0
    · rw [if_pos e2]
      refine Fn_of _ _ Tryz.func48 rfl Tryz.ntmps48 rfl fun c => ?_
      repeat' (first | (refine O_ef rfl (Ef_call (I := []) WideF.wide (h1 _ 1) ⟨rfl, rfl, trivial⟩ rfl ?_); rintro v H1 I1 hle1 ⟨rfl, rfl⟩) | refine O_nil ?_ | refine A_seq ?_ | refine A_region ?_ | refine A_skip ?_ | refine A_ret ?_ | (show opsA _ _ _ _ _ _ _; first | refine O_ev WideF.wide rfl (Ev_pure rfl) rfl rfl ?_ | (show opsA _ _ _ _ (⟨_, .load _ _, _, _, _, _⟩ :: _) _ _; refine O_ev WideF.wide rfl (Ev_loadB1 (i := 0) rfl rfl rfl) rfl rfl ?_) | (show opsA _ _ _ _ (⟨_, .fieldAddr _ _ _, _, _, _, _⟩ :: _) _ _; refine O_ev WideF.wide rfl (Ev_fieldAddr rfl rfl rfl) rfl rfl ?_) | (show opsA _ _ _ _ (⟨_, .unOp _ _ _, _, _, _, _⟩ :: _) _ _; refine O_ev WideF.wide rfl (Ev_notb rfl) rfl rfl ?_) | (show opsA _ _ _ _ (⟨_, .box _ _, _, _, _, _⟩ :: _) _ _; (refine O_ef rfl (Ef_boxa WideF.wide rfl rfl ?_); intro b))) | (show wpA _ _ _ (.cond _ _ _) _ _ _ _; first | (refine A_if rfl (fun h => ?_) (fun h => ?_) <;> try (exfalso; omega)) | refine A_iffalse rfl ?_))
      all_goals first
        | exact End_e (Ret1 rfl rfl) ⟨rfl, rfl⟩
        | (exfalso; contradiction)
    · rw [if_neg e2, if_neg e2]
      refine Fn_of _ _ Tryz.func48 rfl Tryz.ntmps48 rfl fun c => ?_
      repeat' (first | (refine O_ef rfl (Ef_call (I := []) WideF.wide (h1 _ 1) ⟨rfl, rfl, trivial⟩ rfl ?_); rintro v H1 I1 hle1 ⟨rfl, rfl⟩) | refine O_nil ?_ | refine A_seq ?_ | refine A_region ?_ | refine A_skip ?_ | refine A_ret ?_ | (show opsA _ _ _ _ _ _ _; first | refine O_ev WideF.wide rfl (Ev_pure rfl) rfl rfl ?_ | (show opsA _ _ _ _ (⟨_, .load _ _, _, _, _, _⟩ :: _) _ _; refine O_ev WideF.wide rfl (Ev_loadB1 (i := 0) rfl rfl rfl) rfl rfl ?_) | (show opsA _ _ _ _ (⟨_, .fieldAddr _ _ _, _, _, _, _⟩ :: _) _ _; refine O_ev WideF.wide rfl (Ev_fieldAddr rfl rfl rfl) rfl rfl ?_) | (show opsA _ _ _ _ (⟨_, .unOp _ _ _, _, _, _, _⟩ :: _) _ _; refine O_ev WideF.wide rfl (Ev_notb rfl) rfl rfl ?_) | (show opsA _ _ _ _ (⟨_, .box _ _, _, _, _, _⟩ :: _) _ _; (refine O_ef rfl (Ef_boxa WideF.wide rfl rfl ?_); intro b))) | (show wpA _ _ _ (.cond _ _ _) _ _ _ _; first | (refine A_if rfl (fun h => ?_) (fun h => ?_) <;> try (exfalso; omega)) | refine A_iffalse rfl ?_))
      all_goals first
        | exact End_e (Ret1 rfl rfl) ⟨rfl, rfl⟩
        | (exfalso; contradiction)
  | false =>
    have hl := hp rfl
    obtain ⟨i, hi⟩ : ∃ i : Nat, lev = i + 1 := ⟨(lev - 1).toNat, by omega⟩
    subst hi
    obtain ⟨b, o, y, rfl, hyi, hc⟩ := hx.atm i (by omega)
    have hg : gF (fmtOf (fmts l) ⟨lit, i + 1, false⟩) false = y.fmt := fmtOf_at (p := ⟨lit, i + 1, false⟩) (by show i = ((i : Int) + 1 - 1).toNat; omega) hyi
    rw [hg]
    unfold lvrow at hc
    have hsub : (i : Int) + 1 - 1 = (i : Int) := by omega
    by_cases e1 : (fmtE y.fmt v0).2 = 0
    · rw [if_pos e1]
      refine Fn_of _ _ Tryz.func48 rfl Tryz.ntmps48 rfl fun c => ?_
      repeat' (first | (refine O_ev WideF.wide rfl (Ev_loadH1 rfl (hc 0 _ rfl)) rfl rfl ?_) | (refine O_ev WideF.wide rfl (Ev_sub rfl rfl (wi64 (by omega))) rfl rfl ?_; rw [hsub]) | (refine O_ef rfl (Ef_call (I := []) WideF.wide (h1 _ _) ⟨rfl, rfl, trivial⟩ rfl ?_); rintro v H1 I1 hle1 ⟨rfl, rfl⟩) | refine O_nil ?_ | refine A_seq ?_ | refine A_region ?_ | refine A_ret ?_ | (show opsA _ _ _ _ _ _ _; first | refine O_ev WideF.wide rfl (Ev_pure rfl) rfl rfl ?_ | (show opsA _ _ _ _ (⟨_, .load _ _, _, _, _, _⟩ :: _) _ _; refine O_ev WideF.wide rfl (Ev_loadB1 (i := 0) rfl rfl rfl) rfl rfl ?_) | (show opsA _ _ _ _ (⟨_, .indexAddr _ _ _, _, _, _, _⟩ :: _) _ _; refine O_ev WideF.wide rfl (Ev_indexAddr rfl rfl (by omega) (by omega)) rfl rfl ?_) | (show opsA _ _ _ _ (⟨_, .fieldAddr _ _ _, _, _, _, _⟩ :: _) _ _; refine O_ev WideF.wide rfl (Ev_fieldAddr rfl rfl rfl) rfl rfl ?_) | (show opsA _ _ _ _ (⟨_, .unOp _ _ _, _, _, _, _⟩ :: _) _ _; refine O_ev WideF.wide rfl (Ev_notb rfl) rfl rfl ?_) | (show opsA _ _ _ _ (⟨_, .box _ _, _, _, _, _⟩ :: _) _ _; (refine O_ef rfl (Ef_boxa WideF.wide rfl rfl ?_); intro b))) | (show wpA _ _ _ (.cond _ _ _) _ _ _ _; first | (refine A_if rfl (fun h => ?_) (fun h => ?_) <;> try (exfalso; omega)) | refine A_iftrue rfl ?_))
      all_goals first
        | exact End_e (Ret1 rfl rfl) ⟨rfl, rfl⟩
        | (exfalso; contradiction)
    · rw [if_neg e1]
      by_cases e2 : (fmtE 1 v0).2 = 0
      · rw [if_pos e2]
        refine Fn_of _ _ Tryz.func48 rfl Tryz.ntmps48 rfl fun c => ?_
        repeat' (first | (refine O_ev WideF.wide rfl (Ev_loadH1 rfl (hc 0 _ rfl)) rfl rfl ?_) | (refine O_ev WideF.wide rfl (Ev_sub rfl rfl (wi64 (by omega))) rfl rfl ?_; rw [hsub]) | (refine O_ef rfl (Ef_call (I := []) WideF.wide (h1 _ _) ⟨rfl, rfl, trivial⟩ rfl ?_); rintro v H1 I1 hle1 ⟨rfl, rfl⟩) | refine O_nil ?_ | refine A_seq ?_ | refine A_region ?_ | refine A_skip ?_ | refine A_ret ?_ | (show opsA _ _ _ _ _ _ _; first | refine O_ev WideF.wide rfl (Ev_pure rfl) rfl rfl ?_ | (show opsA _ _ _ _ (⟨_, .load _ _, _, _, _, _⟩ :: _) _ _; refine O_ev WideF.wide rfl (Ev_loadB1 (i := 0) rfl rfl rfl) rfl rfl ?_) | (show opsA _ _ _ _ (⟨_, .indexAddr _ _ _, _, _, _, _⟩ :: _) _ _; refine O_ev WideF.wide rfl (Ev_indexAddr rfl rfl (by omega) (by omega)) rfl rfl ?_) | (show opsA _ _ _ _ (⟨_, .fieldAddr _ _ _, _, _, _, _⟩ :: _) _ _; refine O_ev WideF.wide rfl (Ev_fieldAddr rfl rfl rfl) rfl rfl ?_) | (show opsA _ _ _ _ (⟨_, .unOp _ _ _, _, _, _, _⟩ :: _) _ _; refine O_ev WideF.wide rfl (Ev_notb rfl) rfl rfl ?_) | (show opsA _ _ _ _ (⟨_, .box _ _, _, _, _, _⟩ :: _) _ _; (refine O_ef rfl (Ef_boxa WideF.wide rfl rfl ?_); intro b))) | (show wpA _ _ _ (.cond _ _ _) _ _ _ _; first | (refine A_if rfl (fun h => ?_) (fun h => ?_) <;> try (exfalso; omega)) | refine A_iftrue rfl ?_))
        all_goals first
          | exact End_e (Ret1 rfl rfl) ⟨rfl, rfl⟩
          | (exfalso; contradiction)
      · rw [if_neg e2]
        refine Fn_of _ _ Tryz.func48 rfl Tryz.ntmps48 rfl fun c => ?_
        repeat' (first | (refine O_ev WideF.wide rfl (Ev_loadH1 rfl (hc 0 _ rfl)) rfl rfl ?_) | (refine O_ev WideF.wide rfl (Ev_sub rfl rfl (wi64 (by omega))) rfl rfl ?_; rw [hsub]) | (refine O_ef rfl (Ef_call (I := []) WideF.wide (h1 _ _) ⟨rfl, rfl, trivial⟩ rfl ?_); rintro v H1 I1 hle1 ⟨rfl, rfl⟩) | refine O_nil ?_ | refine A_seq ?_ | refine A_region ?_ | refine A_skip ?_ | refine A_ret ?_ | (show opsA _ _ _ _ _ _ _; first | refine O_ev WideF.wide rfl (Ev_pure rfl) rfl rfl ?_ | (show opsA _ _ _ _ (⟨_, .load _ _, _, _, _, _⟩ :: _) _ _; refine O_ev WideF.wide rfl (Ev_loadB1 (i := 0) rfl rfl rfl) rfl rfl ?_) | (show opsA _ _ _ _ (⟨_, .indexAddr _ _ _, _, _, _, _⟩ :: _) _ _; refine O_ev WideF.wide rfl (Ev_indexAddr rfl rfl (by omega) (by omega)) rfl rfl ?_) | (show opsA _ _ _ _ (⟨_, .fieldAddr _ _ _, _, _, _, _⟩ :: _) _ _; refine O_ev WideF.wide rfl (Ev_fieldAddr rfl rfl rfl) rfl rfl ?_) | (show opsA _ _ _ _ (⟨_, .unOp _ _ _, _, _, _, _⟩ :: _) _ _; refine O_ev WideF.wide rfl (Ev_notb rfl) rfl rfl ?_) | (show opsA _ _ _ _ (⟨_, .box _ _, _, _, _, _⟩ :: _) _ _; (refine O_ef rfl (Ef_boxa WideF.wide rfl rfl ?_); intro b))) | (show wpA _ _ _ (.cond _ _ _) _ _ _ _; first | (refine A_if rfl (fun h => ?_) (fun h => ?_) <;> try (exfalso; omega)) | refine A_iftrue rfl ?_))
        all_goals first
          | exact End_e (Ret1 rfl rfl) ⟨rfl, rfl⟩
          | (exfalso; contradiction)

end Go.Proofs.YtaneeaojlkenmaaGreatDoor
