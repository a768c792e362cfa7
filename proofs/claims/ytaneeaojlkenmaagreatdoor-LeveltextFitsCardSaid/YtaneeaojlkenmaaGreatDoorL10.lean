/-
  The reference's Parse and Print.
-/
import Derived.Test.YtaneeaojlkenmaaGreatDoorL6
import Derived.Test.YtaneeaojlkenmaaGreatDoorL9
namespace Go.Proofs.YtaneeaojlkenmaaGreatDoor
open Go
set_option linter.unusedVariables false
set_option linter.unusedSimpArgs false
/-- a struct in a variable, and a slot -/
theorem RetC2 {P : Program} {fn : Func} {n : Nat} {e : Env} {H : Hp} {M L : Own} {D : List Deferred} {T k b i t t2 : Nat} {cs : List Value} {v2 : Value} [hT : TyC P T true k] (h : fn.results = #[.cell t T, .tmp t2]) (h1 : e.find t = some (.pointer (some ⟨b, 0, none⟩))) (hR : oget M i = some (.box b cs)) (hk : cs.length = k) (h2 : e.find t2 = some v2) :
    RetOk P fn ⟨n, e, H, M, L, D⟩ (.tuple [.agg cs.toArray, v2].toArray) := fun a w he hr => by
  obtain ⟨T', hb⟩ := hr _ (List.mem_append_left _ (oget_mem hR))
  have h3 := run_load_agg (P := P) (t := T) (w := w) (b := b) (o := 0) hk (fun j v hj => cell_of_heap hb (by simpa using hj))
  simp only [Instr.loadAt, Instr.sureAddr, Sem.run_bind, Sem.run_pure, Result.andThen_ok] at h3
  have e1 : (resOf a.tmps (.cell t T)).run P w = .ok (.agg cs.toArray) w := by simp [resOf, he _ _ h1, asAddr, h3]
  have e2 : (resOf a.tmps (.tmp t2)).run P w = .ok v2 w := by simp [resOf, he _ _ h2]
  rw [results_eq, h, Sem.run_bind, run_mapM2 e1 e2]
  rfl
attribute [local irreducible] wpA opsA drJ drQ drE Ef Ev Shift Fn
set_option maxRecDepth 100000 in
theorem rcontrol_fn {H : Hp} {l : List UInt8} (hl : l.length < 1099511627776) : FnP Tryz.prog 39 [sv l] H (.bool (decide (control l))) := by
  refine Fn_of _ _ Tryz.func39 rfl Tryz.ntmps39 rfl fun c => ?_
  repeat' (first | refine O_nil ?_ | refine A_seq ?_ | refine A_region ?_ | refine A_block ?_ | (show opsA _ _ _ _ _ _ _; refine O_ev WideF.wide rfl (Ev_pure rfl) rfl rfl ?_))
  refine A_loopu (fun m s => ∃ i : Nat, m = l.length - i ∧ i ≤ l.length ∧ (control l ↔ ∃ b ∈ l.drop i, ctrl b) ∧ s = ⟨20, [(0, sv l), (3, .int .i64 i)], H, [], [], []⟩) ?_ ?_
  · exact Shift.to ⟨_, 0, rfl, by omega, by rw [List.drop_zero]; exact Iff.rfl, rfl⟩ ⟨rfl, rfl, rfl, ⟨rfl, rfl, trivial⟩, Own.sub_nil _⟩
  · rintro m s ⟨i, rfl, hi, hall, rfl⟩
    by_cases hlt : i < l.length
    · obtain ⟨x, hx, _, hb⟩ := drop_at hlt
      rw [control_drop hx] at hall
      by_cases hc : ctrl x
      · have hc' := hc
        unfold ctrl at hc'
        rw [decide_eq_true (hall.2 (.inl hc))]
        repeat' (first | refine O_nil ?_ | refine A_seq ?_ | refine A_region ?_ | refine A_skip ?_ | refine A_ret ?_ | refine A_block ?_ | (show opsA _ _ _ _ _ _ _; first | (refine O_split rfl rfl (fun h => ?_) (fun h => ?_) <;> try (exfalso; omega)) | refine O_ev WideF.wide rfl (Ev_pure rfl) rfl rfl ?_ | (show opsA _ _ _ _ (⟨_, .call _, _, _, _, _⟩ :: _) _ _; refine O_ev WideF.wide rfl (Ev_slen rfl) rfl rfl ?_) | (show opsA _ _ _ _ (⟨_, .index _ _ _, _, _, _, _⟩ :: _) _ _; refine O_ev WideF.wide rfl (Ev_sindex rfl rfl (by omega) (by omega)) rfl rfl ?_) | refine O_skip WideF.wide rfl rfl rfl ?_) | (show wpA _ _ _ (.cond _ _ _) _ _ _ _; first | (refine A_if rfl (fun h => ?_) (fun h => ?_) <;> try (exfalso; omega)) | refine A_iftrue rfl ?_))
        all_goals first
          | (exfalso; omega)
          | exact End_p (Ret1 rfl rfl) rfl
      · have hc' := hc
        unfold ctrl at hc'
        repeat' (first | refine O_nil ?_ | refine A_seq ?_ | refine A_region ?_ | refine A_skip ?_ | refine A_block ?_ | (show opsA _ _ _ _ _ _ _; first | (refine O_split rfl rfl (fun h => ?_) (fun h => ?_) <;> try (exfalso; omega)) | refine O_ev WideF.wide rfl (Ev_pure rfl) rfl rfl ?_ | (show opsA _ _ _ _ (⟨_, .call _, _, _, _, _⟩ :: _) _ _; refine O_ev WideF.wide rfl (Ev_slen rfl) rfl rfl ?_) | (show opsA _ _ _ _ (⟨_, .binOp _ _ _ _ _, _, _, _, _⟩ :: _) _ _; refine O_ev WideF.wide rfl (Ev_add rfl rfl (wi64 (by omega))) rfl rfl ?_) | (show opsA _ _ _ _ (⟨_, .index _ _ _, _, _, _, _⟩ :: _) _ _; refine O_ev WideF.wide rfl (Ev_sindex rfl rfl (by omega) (by omega)) rfl rfl ?_)) | (show wpA _ _ _ (.cond _ _ _) _ _ _ _; (refine A_if rfl (fun h => ?_) (fun h => ?_) <;> try (exfalso; omega))))
        all_goals try (exfalso; omega)
        all_goals
          refine Shift.to ⟨_, ?_, i + 1, rfl, by omega, hall.trans ⟨fun h => h.elim (fun h => absurd h hc) id, .inr⟩, rfl⟩ ⟨rfl, rfl, rfl, ⟨rfl, rfl, trivial⟩, Own.sub_nil _⟩
          omega
    · rw [List.drop_eq_nil_of_le (by omega)] at hall
      rw [decide_eq_false (fun h => by obtain ⟨_, h, _⟩ := hall.1 h; cases h)]
      repeat' (first | refine O_nil ?_ | refine A_seq ?_ | refine A_region ?_ | refine A_ret ?_ | (show opsA _ _ _ _ _ _ _; first | refine O_ev WideF.wide rfl (Ev_pure rfl) rfl rfl ?_ | (show opsA _ _ _ _ (⟨_, .call _, _, _, _, _⟩ :: _) _ _; refine O_ev WideF.wide rfl (Ev_slen rfl) rfl rfl ?_)) | (show wpA _ _ _ (.exit _) _ _ _ _; refine A_exit rfl ?_) | (show wpA _ _ _ (.cond _ _ _) _ _ _ _; (refine A_if rfl (fun h => ?_) (fun h => ?_) <;> try (exfalso; omega))))
      all_goals first
        | (exfalso; omega)
        | exact End_p (Ret1 rfl rfl) rfl
/-- the placeholder of the reference -/
def plcR (s : List UInt8) (i : Nat) : Pt × Int := match pct (s.drop (i + 1)) with
  | .place p n => (p, n + 1)
  | _ => (⟨[], 0, false⟩, 0)
def plcV (s : List UInt8) (i : Nat) : Value := .tuple [.agg (prow (plcR s i).1).toArray, .int .i64 (plcR s i).2].toArray
theorem pct_nosign {s : List UInt8} {i : Nat} (hi : i < s.length) (hc : s[i]? = some 37) (hn : ¬ (i + 1 < s.length ∧ bat s (i + 1 : Nat) = 37)) : pct (s.drop (i + 1)) ≠ .sign := by
  intro h
  rcases Nat.lt_or_ge (i + 1) s.length with h1 | h1
  · obtain ⟨x, hx, _, hb⟩ := drop_at h1
    rw [hx, pct_cons] at h
    by_cases h2 : x = 37
    · subst h2; exact hn ⟨h1, hb⟩
    · rw [if_neg h2] at h
      split at h
      · cases h
      · split at h
        · split at h
          · cases h
          · split at h <;> cases h
        · cases h
  · rw [List.drop_eq_nil_of_le h1] at h; cases h
set_option maxRecDepth 100000 in
set_option maxHeartbeats 2000000 in
theorem rplace_fn {H : Hp} {s : List UInt8} {i : Nat} (hs : s.length ≤ 1000) (hc : s[i]? = some 37) (hn : ¬ (i + 1 < s.length ∧ bat s (i + 1 : Nat) = 37)) :
    Fn Tryz.prog 40 [sv s, .int .i64 i] H [] fun v _ I => v = plcV s i ∧ I = [] := by
  have hi : i < s.length := (List.getElem?_eq_some_iff.1 hc).1
  have hns := pct_nosign hi hc hn
  rw [show ((i + 1 : Nat) : Int) = (i : Int) + 1 by omega] at hn
  unfold plcV plcR
  rcases pct_cases hc with ⟨q1, q2⟩ | ⟨q1, d, q2, q3, q4⟩ | ⟨q1, q2, q3, d, q4, q5, q6⟩ | ⟨q1, q2, q3, q4⟩
  · exact absurd q2 hns
  · rw [q4]
    have hi1 : i + 1 < s.length := (List.getElem?_eq_some_iff.1 q2).1
    have hb1 : bat s ((i : Int) + 1) = (d.toNat : Int) := by rw [show (i : Int) + 1 = ((i + 1 : Nat) : Int) by omega, bat_at hi1]; rw [List.getElem?_eq_getElem hi1] at q2; cases q2; rfl
    unfold dig at q3
    refine Fn_of _ _ Tryz.func40 rfl Tryz.ntmps40 rfl fun c => ?_
    repeat' (first | (refine O_ev WideF.wide rfl (Ev_sub rfl rfl (wu8 (by omega))) rfl rfl ?_) | refine O_nil ?_ | refine A_seq ?_ | refine A_region ?_ | refine A_ret ?_ | (show opsA _ _ _ _ _ _ _; first | (refine O_split rfl rfl (fun h => ?_) (fun h => ?_) <;> try (exfalso; omega)) | refine O_ev WideF.wide rfl (Ev_pure rfl) rfl rfl ?_ | (show opsA _ _ _ _ (⟨_, .call _, _, _, _, _⟩ :: _) _ _; refine O_ev WideF.wide rfl (Ev_slen rfl) rfl rfl ?_) | (show opsA _ _ _ _ (⟨_, .binOp _ _ _ _ _, _, _, _, _⟩ :: _) _ _; refine O_ev WideF.wide rfl (Ev_add rfl rfl (wi64 (by omega))) rfl rfl ?_) | (show opsA _ _ _ _ (⟨_, .index _ _ _, _, _, _, _⟩ :: _) _ _; refine O_ev WideF.wide rfl (Ev_sindex rfl rfl (by omega) (by omega)) rfl rfl ?_) | (show opsA _ _ _ _ (⟨_, .convert _ _ _, _, _, _, _⟩ :: _) _ _; refine O_ev WideF.wide rfl (Ev_conv (k2 := .i64) rfl (wi64 (by omega))) rfl rfl ?_) | (show opsA _ _ _ _ (⟨_, .build _ _, _, _, _, _⟩ :: _) _ _; refine O_ev WideF.wide rfl (Ev_build (vs := [(_, _)]) ⟨rfl, rfl, trivial⟩ rfl) rfl rfl ?_) | (show opsA _ _ _ _ (⟨_, .alloc _, _, _, _, _⟩ :: _) _ _; (refine O_ef rfl (Ef_alloc WideF.wide rfl ?_); intro b)) | (show opsA _ _ _ _ (⟨_, .store _ _ _, _, _, _, _⟩ :: _) _ _; refine O_ef rfl (Ef_storew WideF.wide rfl rfl rfl rfl rfl ?_))) | (show wpA _ _ _ (.cond _ _ _) _ _ _ _; (refine A_if rfl (fun h => ?_) (fun h => ?_) <;> try (exfalso; omega))))
    all_goals try (exfalso; omega)
    rw [hb1]
    exact End_e (RetC2 (i := 0) rfl rfl rfl rfl rfl) ⟨rfl, rfl⟩
  · rw [q6]
    have hi1 : i + 2 < s.length := (List.getElem?_eq_some_iff.1 q4).1
    have hb2 : bat s ((i : Int) + 2) = (d.toNat : Int) := by rw [show (i : Int) + 2 = ((i + 2 : Nat) : Int) by omega, bat_at hi1]; rw [List.getElem?_eq_getElem hi1] at q4; cases q4; rfl
    have hb1 : bat s ((i : Int) + 1) = 100 := by
      obtain ⟨x, hx, _, hb⟩ := drop_at (s := s) (i := i + 1) (by omega)
      obtain ⟨y, hy, hyi, _⟩ := drop_at hi
      rw [hc] at hyi
      cases hyi
      rw [hy, hx] at q3
      simp [List.isPrefixOf] at q3
      rw [show (i : Int) + 1 = ((i + 1 : Nat) : Int) by omega, hb, ← q3]; rfl
    unfold dig at q5
    refine Fn_of _ _ Tryz.func40 rfl Tryz.ntmps40 rfl fun c => ?_
    repeat' (first | (refine O_ev WideF.wide rfl (Ev_sub rfl rfl (wu8 (by omega))) rfl rfl ?_) | refine O_nil ?_ | refine A_seq ?_ | refine A_region ?_ | refine A_skip ?_ | refine A_ret ?_ | (show opsA _ _ _ _ _ _ _; first | (refine O_split rfl rfl (fun h => ?_) (fun h => ?_) <;> try (exfalso; omega)) | refine O_ev WideF.wide rfl (Ev_pure rfl) rfl rfl ?_ | (show opsA _ _ _ _ (⟨_, .call _, _, _, _, _⟩ :: _) _ _; refine O_ev WideF.wide rfl (Ev_slen rfl) rfl rfl ?_) | (show opsA _ _ _ _ (⟨_, .binOp _ _ _ _ _, _, _, _, _⟩ :: _) _ _; refine O_ev WideF.wide rfl (Ev_add rfl rfl (wi64 (by omega))) rfl rfl ?_) | (show opsA _ _ _ _ (⟨_, .index _ _ _, _, _, _, _⟩ :: _) _ _; refine O_ev WideF.wide rfl (Ev_sindex rfl rfl (by omega) (by omega)) rfl rfl ?_) | (show opsA _ _ _ _ (⟨_, .convert _ _ _, _, _, _, _⟩ :: _) _ _; refine O_ev WideF.wide rfl (Ev_conv (k2 := .i64) rfl (wi64 (by omega))) rfl rfl ?_) | (show opsA _ _ _ _ (⟨_, .build _ _, _, _, _, _⟩ :: _) _ _; refine O_ev WideF.wide rfl (Ev_build (vs := [(_, _), (_, _)]) ⟨rfl, rfl, rfl, rfl, trivial⟩ rfl) rfl rfl ?_) | (show opsA _ _ _ _ (⟨_, .alloc _, _, _, _, _⟩ :: _) _ _; (refine O_ef rfl (Ef_alloc WideF.wide rfl ?_); intro b)) | (show opsA _ _ _ _ (⟨_, .store _ _ _, _, _, _, _⟩ :: _) _ _; refine O_ef rfl (Ef_storew WideF.wide rfl rfl rfl rfl rfl ?_))) | (show wpA _ _ _ (.cond _ _ _) _ _ _ _; (refine A_if rfl (fun h => ?_) (fun h => ?_) <;> try (exfalso; omega))))
    all_goals try (exfalso; omega)
    rw [hb2]
    exact End_e (RetC2 (i := 0) rfl rfl rfl rfl rfl) ⟨rfl, rfl⟩
  · rw [q4]
    have h1 : i + 1 < s.length → ¬ (49 ≤ bat s ((i : Int) + 1) ∧ bat s ((i : Int) + 1) ≤ 57) := fun hl h => by
      rw [show (i : Int) + 1 = ((i + 1 : Nat) : Int) by omega, bat_at hl] at h
      exact q2 ⟨s[i + 1], List.getElem?_eq_getElem hl, by unfold dig; omega⟩
    have h2 : i + 2 < s.length → bat s ((i : Int) + 1) = 100 → ¬ (49 ≤ bat s ((i : Int) + 2) ∧ bat s ((i : Int) + 2) ≤ 57) := fun hl h100 h => by
      rw [show (i : Int) + 2 = ((i + 2 : Nat) : Int) by omega, bat_at hl] at h
      rcases q3 with q3 | ⟨_, q3⟩
      · obtain ⟨x, hx, _, hb⟩ := drop_at (s := s) (i := i + 1) (by omega)
        obtain ⟨y, hy, hyi, _⟩ := drop_at hi
        rw [hc] at hyi
        cases hyi
        rw [hy, hx] at q3
        have hx100 : x = 100 := UInt8.toNat_inj.1 (by rw [show (i : Int) + 1 = ((i + 1 : Nat) : Int) by omega, hb] at h100; show x.toNat = 100; omega)
        rw [hx100] at q3
        simp [List.isPrefixOf] at q3
      · exact q3 ⟨s[i + 2], List.getElem?_eq_getElem hl, by unfold dig; omega⟩
    refine Fn_of _ _ Tryz.func40 rfl Tryz.ntmps40 rfl fun c => ?_
    repeat' (first | refine O_nil ?_ | refine A_seq ?_ | refine A_region ?_ | refine A_skip ?_ | refine A_ret ?_ | (show opsA _ _ _ _ _ _ _; first | (refine O_split rfl rfl (fun h => ?_) (fun h => ?_) <;> try (exfalso; omega)) | refine O_ev WideF.wide rfl (Ev_pure rfl) rfl rfl ?_ | (show opsA _ _ _ _ (⟨_, .call _, _, _, _, _⟩ :: _) _ _; refine O_ev WideF.wide rfl (Ev_slen rfl) rfl rfl ?_) | (show opsA _ _ _ _ (⟨_, .binOp _ _ _ _ _, _, _, _, _⟩ :: _) _ _; refine O_ev WideF.wide rfl (Ev_add rfl rfl (wi64 (by omega))) rfl rfl ?_) | (show opsA _ _ _ _ (⟨_, .index _ _ _, _, _, _, _⟩ :: _) _ _; refine O_ev WideF.wide rfl (Ev_sindex rfl rfl (by omega) (by omega)) rfl rfl ?_) | (show opsA _ _ _ _ (⟨_, .build _ _, _, _, _, _⟩ :: _) _ _; refine O_ev WideF.wide rfl (Ev_build (vs := []) trivial rfl) rfl rfl ?_) | (show opsA _ _ _ _ (⟨_, .alloc _, _, _, _, _⟩ :: _) _ _; (refine O_ef rfl (Ef_alloc WideF.wide rfl ?_); intro b)) | (show opsA _ _ _ _ (⟨_, .store _ _ _, _, _, _, _⟩ :: _) _ _; refine O_ef rfl (Ef_storew WideF.wide rfl rfl rfl rfl rfl ?_)) | refine O_skip WideF.wide rfl rfl rfl ?_) | (show wpA _ _ _ (.cond _ _ _) _ _ _ _; first | (refine A_if rfl (fun h => ?_) (fun h => ?_) <;> try (exfalso; omega)) | refine A_iffalse rfl ?_))
    all_goals try (exfalso; omega)
    all_goals exact End_e (RetC2 (i := 0) rfl rfl rfl rfl rfl) ⟨rfl, rfl⟩
theorem fill_lit (lit : List UInt8) : fillL [(0, 1), (1, 1), (2, 1)] [(0, sv lit)] [Value.string ⟨#[]⟩, .int .i64 0, .bool false] = prow ⟨lit, 0, false⟩ := rfl
theorem snoc_row {acc : List Pt} {z : List Value} (p : Pt) (h : z = prow p) : acc.map prow ++ [z] = (acc ++ [p]).map prow := by rw [h, List.map_append]; rfl
/-- where the reference's loop stands -/
structure RefAt (s : List UInt8) (i : Nat) (lit : List UInt8) (acc : List Pt) (pl : Int) : Prop where
  hi : i ≤ s.length
  hlit : lit.length ≤ i
  hacc : acc.length ≤ 2 * i
  hpl : pl = places acc
  hplb : pl ≤ i
  hgo : scnS (s.drop i) lit acc = scnS s [] []
set_option maxRecDepth 100000 in
set_option maxHeartbeats 2000000 in
theorem rParse10_fn {H : Hp} {s : List UInt8} (hs : s.length < 1099511627776) : Fn Tryz.prog 15 [sv s] H [] (ParseH s) := by
  have hv := fun Hx => rFirst_fn (H := Hx) hs
  have hcl := fun Hx => rcontrol_fn (H := Hx) hs
  by_cases h1 : 64 < s.length
  · have e : tplE s = ([], 10) := by rw [tplE_def, if_pos h1]
    unfold ParseH
    rw [e]
    refine Fn_of _ _ Tryz.func15 rfl Tryz.ntmps15 rfl fun c => ?_
    repeat' (first | refine O_nil ?_ | refine A_seq ?_ | refine A_region ?_ | refine A_ret ?_ | refine A_block ?_ | (show opsA _ _ _ _ _ _ _; first | refine O_ev WideF.wide rfl (Ev_pure rfl) rfl rfl ?_ | (show opsA _ _ _ _ (⟨_, .call _, _, _, _, _⟩ :: _) _ _; refine O_ev WideF.wide rfl (Ev_slen rfl) rfl rfl ?_)) | (show wpA _ _ _ (.cond _ _ _) _ _ _ _; (refine A_if rfl (fun h => ?_) (fun h => ?_) <;> try (exfalso; omega))))
    all_goals first
      | (exfalso; omega)
      | exact End_e (Ret2 rfl rfl rfl) ⟨none, 0, 0, rfl, HRow.nil' _ 3, rfl⟩
  · by_cases h2 : valid s
    · by_cases h3 : control s
      · have e : tplE s = ([], 5) := by rw [tplE_def, if_neg h1, if_neg (fun h => h h2), if_pos h3]
        unfold ParseH
        rw [e]
        simp only [decide_eq_true h3] at hcl
        refine Fn_of _ _ Tryz.func15 rfl Tryz.ntmps15 rfl fun c => ?_
        repeat' (first | (refine O_ef rfl (Ef_call (I := []) WideF.wide (hv _) ⟨rfl, trivial⟩ rfl ?_); rintro v H1 I1 hle1 ⟨⟨r, rfl, hr⟩, rfl⟩); have hr1 : r < 0 := (by have : ¬ 0 ≤ r := fun h => hr.1 h h2; omega) | (refine O_ef rfl (Ef_callp WideF.wide (hcl _) ⟨rfl, trivial⟩ rfl ?_)) | refine O_nil ?_ | refine A_seq ?_ | refine A_region ?_ | refine A_ret ?_ | refine A_block ?_ | (show opsA _ _ _ _ _ _ _; first | refine O_ev WideF.wide rfl (Ev_pure rfl) rfl rfl ?_ | (show opsA _ _ _ _ (⟨_, .call _, _, _, _, _⟩ :: _) _ _; refine O_ev WideF.wide rfl (Ev_slen rfl) rfl rfl ?_)) | (show wpA _ _ _ (.cond _ _ _) _ _ _ _; first | (refine A_if rfl (fun h => ?_) (fun h => ?_) <;> try (exfalso; omega)) | refine A_iftrue rfl ?_))
        all_goals first
          | (exfalso; omega)
          | exact End_e (Ret2 rfl rfl rfl) ⟨none, 0, 0, rfl, HRow.nil' _ 3, rfl⟩
      · simp only [decide_eq_false h3] at hcl
        refine Fn_of _ _ Tryz.func15 rfl Tryz.ntmps15 rfl fun c => ?_
        repeat' (first | (refine O_ef rfl (Ef_call (I := []) WideF.wide (hv _) ⟨rfl, trivial⟩ rfl ?_); rintro v H1 I1 hle1 ⟨⟨r, rfl, hr⟩, rfl⟩); have hr1 : r < 0 := (by have : ¬ 0 ≤ r := fun h => hr.1 h h2; omega) | (refine O_ef rfl (Ef_callp WideF.wide (hcl _) ⟨rfl, trivial⟩ rfl ?_)) | refine O_nil ?_ | refine A_seq ?_ | refine A_region ?_ | refine A_skip ?_ | refine A_block ?_ | (show opsA _ _ _ _ _ _ _; first | refine O_ev WideF.wide rfl (Ev_pure rfl) rfl rfl ?_ | (show opsA _ _ _ _ (⟨_, .call _, _, _, _, _⟩ :: _) _ _; refine O_ev WideF.wide rfl (Ev_slen rfl) rfl rfl ?_)) | (show wpA _ _ _ (.cond _ _ _) _ _ _ _; first | (refine A_if rfl (fun h => ?_) (fun h => ?_) <;> try (exfalso; omega)) | refine A_iffalse rfl ?_))
        all_goals try (exfalso; omega)
        refine A_nilrow 3 ?_
        refine A_loopu (fun m st => ∃ (i : Nat) (lit : List UInt8) (acc : List Pt) (pl : Int) (a : Option Addr) (cq : Nat) (H2 : Hp), m = s.length - i ∧ RefAt s i lit acc pl ∧ st = ⟨88, [(0, sv s), (4, .slice a acc.length cq), (5, sv lit), (6, .int .i64 pl), (7, .int .i64 i)], H2, [.row (.slice a acc.length cq) 3 (acc.map prow)], [], []⟩) ?_ ?_
        · exact Shift.to ⟨_, 0, [], [], 0, none, 0, _, rfl, ⟨by omega, by simp, by simp, rfl, by omega, by rw [List.drop_zero]⟩, rfl⟩ ⟨rfl, rfl, rfl, ⟨rfl, rfl, rfl, rfl, rfl, trivial⟩, Own.sub_refl _⟩
        · rintro m st ⟨i, lit, acc, pl, a, cq, H2, rfl, ⟨g1, g2, g3, g4, g5, g6⟩, rfl⟩
          by_cases hlt : i < s.length
          · obtain ⟨x, hx, hxi, hbt⟩ := drop_at hlt
            by_cases hc : x = 37
            · subst hc
              have hbt : bat s (i : Int) = 37 := hbt
              rw [hx] at g6
              by_cases hsg : i + 1 < s.length ∧ bat s (i + 1 : Nat) = 37
              · have hb1 : bat s ((i : Int) + 1) = 37 := by rw [show (i : Int) + 1 = ((i + 1 : Nat) : Int) by omega]; exact hsg.2
                have hlt1 := hsg.1
                have hq : pct (s.drop (i + 1)) = .sign := by
                  obtain ⟨y, hy, _, hb⟩ := drop_at hsg.1
                  rw [hy, pct_cons, if_pos]
                  exact UInt8.toNat_inj.1 (by rw [hsg.2] at hb; show y.toNat = 37; omega)
                rw [scnS_sign hq, List.drop_drop] at g6
                repeat' (first | (refine O_ev WideF.wide rfl (Ev_scat rfl rfl (by simp; omega)) rfl rfl ?_) | refine O_nil ?_ | refine A_seq ?_ | refine A_region ?_ | refine A_skip ?_ | refine A_block ?_ | (show opsA _ _ _ _ _ _ _; first | (refine O_split rfl rfl (fun h => ?_) (fun h => ?_) <;> try (exfalso; omega)) | refine O_ev WideF.wide rfl (Ev_pure rfl) rfl rfl ?_ | (show opsA _ _ _ _ (⟨_, .call _, _, _, _, _⟩ :: _) _ _; refine O_ev WideF.wide rfl (Ev_slen rfl) rfl rfl ?_) | (show opsA _ _ _ _ (⟨_, .binOp _ _ _ _ _, _, _, _, _⟩ :: _) _ _; refine O_ev WideF.wide rfl (Ev_add rfl rfl (wi64 (by omega))) rfl rfl ?_) | (show opsA _ _ _ _ (⟨_, .index _ _ _, _, _, _, _⟩ :: _) _ _; refine O_ev WideF.wide rfl (Ev_sindex rfl rfl (by omega) (by omega)) rfl rfl ?_)) | (show wpA _ _ _ (.exit _) _ _ _ _; refine A_exit rfl ?_) | (show wpA _ _ _ (.cond _ _ _) _ _ _ _; (refine A_if rfl (fun h => ?_) (fun h => ?_) <;> try (exfalso; omega))))
                all_goals try (exfalso; omega)
                refine Shift.to ⟨_, ?_, i + 2, lit ++ [37], acc, pl, a, cq, _, rfl, ⟨by omega, by simp; omega, by omega, g4, by omega, g6⟩, rfl⟩ ⟨rfl, rfl, rfl, ⟨rfl, rfl, rfl, rfl, rfl, trivial⟩, Own.sub_refl _⟩
                omega
              · have hp := fun Hx => rplace_fn (H := Hx) (s := s) (by omega) hxi hsg
                have hns := pct_nosign hlt hxi hsg
                rw [show ((i + 1 : Nat) : Int) = (i : Int) + 1 by omega] at hsg
                unfold plcV plcR at hp
                cases hq : pct (s.drop (i + 1)) with
                | sign => exact absurd hq hns
                | bad =>
                  simp only [hq] at hp
                  rw [scnS_bad hq] at g6
                  have e : tplE s = ([], 14) := by rw [tplE_def, if_neg h1, if_neg (fun h => h h2), if_neg h3, ← g6]
                  unfold ParseH
                  rw [e]
                  repeat' (first | (refine O_ef rfl (Ef_call (I := []) WideF.wide (hp _) ⟨rfl, rfl, trivial⟩ rfl ?_); rintro v H3 I3 hle3 ⟨rfl, rfl⟩) | refine O_nil ?_ | refine A_seq ?_ | refine A_region ?_ | refine A_skip ?_ | refine A_ret ?_ | refine A_block ?_ | (show opsA _ _ _ _ _ _ _; first | (refine O_split rfl rfl (fun h => ?_) (fun h => ?_) <;> try (exfalso; omega)) | refine O_ev WideF.wide rfl (Ev_pure rfl) rfl rfl ?_ | (show opsA _ _ _ _ (⟨_, .call _, _, _, _, _⟩ :: _) _ _; refine O_ev WideF.wide rfl (Ev_slen rfl) rfl rfl ?_) | (show opsA _ _ _ _ (⟨_, .binOp _ _ _ _ _, _, _, _, _⟩ :: _) _ _; refine O_ev WideF.wide rfl (Ev_add rfl rfl (wi64 (by omega))) rfl rfl ?_) | (show opsA _ _ _ _ (⟨_, .index _ _ _, _, _, _, _⟩ :: _) _ _; refine O_ev WideF.wide rfl (Ev_sindex rfl rfl (by omega) (by omega)) rfl rfl ?_) | (show opsA _ _ _ _ (⟨_, .alloc _, _, _, _, _⟩ :: _) _ _; (refine O_ef rfl (Ef_alloc WideF.wide rfl ?_); intro b)) | (show opsA _ _ _ _ (⟨_, .store _ _ _, _, _, _, _⟩ :: _) _ _; refine O_ef rfl (Ef_storew WideF.wide rfl rfl rfl rfl rfl ?_)) | refine O_skip WideF.wide rfl rfl rfl ?_) | (show wpA _ _ _ (.cond _ _ _) _ _ _ _; first | (refine A_if rfl (fun h => ?_) (fun h => ?_) <;> try (exfalso; omega)) | refine A_iffalse rfl ?_))
                  all_goals first
                    | (exfalso; omega)
                    | exact End_e (Ret2 rfl rfl rfl) ⟨none, 0, 0, rfl, HRow.nil' _ 3, rfl⟩
                | place p n =>
                  simp only [hq] at hp
                  rw [scnS_place hq, List.drop_drop] at g6
                  obtain ⟨p1, p2, p3, p4, p5, p6⟩ := pct_place hq
                  rw [List.length_drop] at p1
                  have hpl1 : places [p] = 1 := by unfold places; rw [List.filter_cons, if_pos (by simp; omega)]; rfl
                  by_cases hlit : lit = []
                  · subst hlit
                    have hfl : fls acc [] = acc := by unfold fls; rw [if_pos rfl]
                    rw [hfl] at g6
                    repeat' (first | (refine O_ef rfl (Ef_call (I := []) WideF.wide (hp _) ⟨rfl, rfl, trivial⟩ rfl ?_); rintro v H3 I3 hle3 ⟨rfl, rfl⟩) | refine O_nil ?_ | refine A_seq ?_ | refine A_region ?_ | refine A_skip ?_ | refine A_block ?_ | (show opsA _ _ _ _ _ _ _; first | (refine O_split rfl rfl (fun h => ?_) (fun h => ?_) <;> try (exfalso; omega)) | refine O_ev WideF.wide rfl (Ev_pure rfl) rfl rfl ?_ | (show opsA _ _ _ _ (⟨_, .load _ _, _, _, _, _⟩ :: _) _ _; first | refine O_ev WideF.wide rfl (Ev_loadB (i := 0) rfl rfl rfl) rfl rfl ?_ | refine O_ev WideF.wide rfl (Ev_loadB (i := 1) rfl rfl rfl) rfl rfl ?_) | (show opsA _ _ _ _ (⟨_, .call _, _, _, _, _⟩ :: _) _ _; first | refine O_ev WideF.wide rfl (Ev_slen rfl) rfl rfl ?_ | (refine O_f1 (O_ef rfl (Ef_appendR WideF.wide rfl rfl rfl rfl rfl (by simp; omega) (by simp; omega) rfl ?_)); intro a cp) | (refine O_f2 (O_ef rfl (Ef_appendR WideF.wide rfl rfl rfl rfl rfl (by simp; omega) (by simp; omega) rfl ?_)); intro a cp)) | (show opsA _ _ _ _ (⟨_, .buildSlice _ _ _, _, _, _, _⟩ :: _) _ _; (refine O_ef rfl (Ef_build1a WideF.wide rfl rfl rfl rfl rfl ?_); intro b)) | (show opsA _ _ _ _ (⟨_, .binOp _ _ _ _ _, _, _, _, _⟩ :: _) _ _; first | refine O_ev WideF.wide rfl (Ev_add rfl rfl (wi64 (by omega))) rfl rfl ?_ | refine O_ev WideF.wide rfl (Ev_sneq rfl rfl) rfl rfl ?_) | (show opsA _ _ _ _ (⟨_, .index _ _ _, _, _, _, _⟩ :: _) _ _; refine O_ev WideF.wide rfl (Ev_sindex rfl rfl (by omega) (by omega)) rfl rfl ?_) | (show opsA _ _ _ _ (⟨_, .build _ _, _, _, _, _⟩ :: _) _ _; refine O_ev WideF.wide rfl (Ev_build (vs := [(_, _)]) ⟨rfl, rfl, trivial⟩ rfl) rfl rfl ?_) | (show opsA _ _ _ _ (⟨_, .alloc _, _, _, _, _⟩ :: _) _ _; (refine O_ef rfl (Ef_alloc WideF.wide rfl ?_); intro b)) | (show opsA _ _ _ _ (⟨_, .store _ _ _, _, _, _, _⟩ :: _) _ _; refine O_ef rfl (Ef_storew WideF.wide rfl rfl rfl rfl rfl ?_))) | (show wpA _ _ _ (.cond _ _ _) _ _ _ _; (refine A_if rfl (fun h => ?_) (fun h => ?_) <;> try (exfalso; omega))))
                    all_goals try (exfalso; omega)
                    all_goals try (exfalso; exact absurd (rfl : ([] : List UInt8) = []) (by assumption))
                    rw [snoc_row p rfl, List.length_map]
                    refine Shift.to ⟨_, ?_, i + (n + 1), [], acc ++ [p], pl + 1, _, _, _, rfl, ⟨by omega, by simp, by simp; omega, ?_, by omega, ?_⟩, rfl⟩ ⟨rfl, rfl, rfl, ⟨rfl, rfl, rfl, rfl, rfl, trivial⟩, Own.subi [0] (by decide) rfl rfl⟩
                    · omega
                    · rw [places_append, hpl1, g4]; omega
                    · rw [show i + (n + 1) = i + 1 + n by omega]; exact g6
                  · have hfl : fls acc lit = acc ++ [⟨lit, 0, false⟩] := by unfold fls; rw [if_neg hlit]
                    rw [hfl] at g6
                    repeat' (first | (refine O_ef rfl (Ef_call (I := []) WideF.wide (hp _) ⟨rfl, rfl, trivial⟩ rfl ?_); rintro v H3 I3 hle3 ⟨rfl, rfl⟩) | refine O_nil ?_ | refine A_seq ?_ | refine A_region ?_ | refine A_skip ?_ | refine A_block ?_ | (show opsA _ _ _ _ _ _ _; first | (refine O_split rfl rfl (fun h => ?_) (fun h => ?_) <;> try (exfalso; omega)) | refine O_ev WideF.wide rfl (Ev_pure rfl) rfl rfl ?_ | (show opsA _ _ _ _ (⟨_, .load _ _, _, _, _, _⟩ :: _) _ _; first | refine O_ev WideF.wide rfl (Ev_loadB (i := 0) rfl rfl rfl) rfl rfl ?_ | refine O_ev WideF.wide rfl (Ev_loadB (i := 1) rfl rfl rfl) rfl rfl ?_) | (show opsA _ _ _ _ (⟨_, .call _, _, _, _, _⟩ :: _) _ _; first | refine O_ev WideF.wide rfl (Ev_slen rfl) rfl rfl ?_ | (refine O_f1 (O_ef rfl (Ef_appendR WideF.wide rfl rfl rfl rfl rfl (by simp; omega) (by simp; omega) rfl ?_)); intro a cp) | (refine O_f2 (O_ef rfl (Ef_appendR WideF.wide rfl rfl rfl rfl rfl (by simp; omega) (by simp; omega) rfl ?_)); intro a cp)) | (show opsA _ _ _ _ (⟨_, .buildSlice _ _ _, _, _, _, _⟩ :: _) _ _; (refine O_ef rfl (Ef_build1a WideF.wide rfl rfl rfl rfl rfl ?_); intro b)) | (show opsA _ _ _ _ (⟨_, .binOp _ _ _ _ _, _, _, _, _⟩ :: _) _ _; first | refine O_ev WideF.wide rfl (Ev_add rfl rfl (wi64 (by omega))) rfl rfl ?_ | refine O_ev WideF.wide rfl (Ev_sneq rfl rfl) rfl rfl ?_) | (show opsA _ _ _ _ (⟨_, .index _ _ _, _, _, _, _⟩ :: _) _ _; refine O_ev WideF.wide rfl (Ev_sindex rfl rfl (by omega) (by omega)) rfl rfl ?_) | (show opsA _ _ _ _ (⟨_, .build _ _, _, _, _, _⟩ :: _) _ _; refine O_ev WideF.wide rfl (Ev_build (vs := [(_, _)]) ⟨rfl, rfl, trivial⟩ rfl) rfl rfl ?_) | (show opsA _ _ _ _ (⟨_, .alloc _, _, _, _, _⟩ :: _) _ _; (refine O_ef rfl (Ef_alloc WideF.wide rfl ?_); intro b)) | (show opsA _ _ _ _ (⟨_, .store _ _ _, _, _, _, _⟩ :: _) _ _; refine O_ef rfl (Ef_storew WideF.wide rfl rfl rfl rfl rfl ?_))) | (show wpA _ _ _ (.cond _ _ _) _ _ _ _; (refine A_if rfl (fun h => ?_) (fun h => ?_) <;> try (exfalso; omega))))
                    all_goals try (exfalso; omega)
                    all_goals try (exfalso; exact absurd hlit (by assumption))
                    rw [fill_lit, snoc_row ⟨lit, 0, false⟩ rfl, snoc_row p rfl, List.length_map]
                    refine Shift.to ⟨_, ?_, i + (n + 1), [], acc ++ [⟨lit, 0, false⟩] ++ [p], pl + 1, _, _, _, rfl, ⟨by omega, by simp, by simp; omega, ?_, by omega, ?_⟩, rfl⟩ ⟨rfl, rfl, rfl, ⟨rfl, rfl, rfl, rfl, rfl, trivial⟩, Own.subi [0] (by decide) rfl rfl⟩
                    · omega
                    · rw [places_append, places_append, hpl1, g4]
                      have : places [⟨lit, 0, false⟩] = 0 := rfl
                      rw [this]; omega
                    · rw [show i + (n + 1) = i + 1 + n by omega]; exact g6
            · have hbt : ¬ bat s (i : Int) = 37 := fun h => hc (UInt8.toNat_inj.1 (by rw [h] at hbt; show x.toNat = 37; omega))
              rw [hx, scnS_lit hc] at g6
              have hsl : (s.take ((i : Int) + 1).toNat).drop (i : Int).toNat = [x] := by
                rw [show ((i : Int) + 1).toNat = i + 1 by omega, show (i : Int).toNat = i by omega, take_get hxi, List.drop_left' (by rw [List.length_take]; omega)]
              repeat' (first | (refine O_ev WideF.wide rfl (Ev_scat rfl rfl (by rw [hsl]; simp; omega)) rfl rfl ?_; rw [hsl]) | refine O_nil ?_ | refine A_seq ?_ | refine A_region ?_ | refine A_skip ?_ | refine A_block ?_ | (show opsA _ _ _ _ _ _ _; first | refine O_ev WideF.wide rfl (Ev_pure rfl) rfl rfl ?_ | (show opsA _ _ _ _ (⟨_, .call _, _, _, _, _⟩ :: _) _ _; refine O_ev WideF.wide rfl (Ev_slen rfl) rfl rfl ?_) | (show opsA _ _ _ _ (⟨_, .binOp _ _ _ _ _, _, _, _, _⟩ :: _) _ _; refine O_ev WideF.wide rfl (Ev_add rfl rfl (wi64 (by omega))) rfl rfl ?_) | (show opsA _ _ _ _ (⟨_, .index _ _ _, _, _, _, _⟩ :: _) _ _; refine O_ev WideF.wide rfl (Ev_sindex rfl rfl (by omega) (by omega)) rfl rfl ?_) | (show opsA _ _ _ _ (⟨_, .slice _ _ _ _ _, _, _, _, _⟩ :: _) _ _; refine O_ev WideF.wide rfl (Ev_sslice rfl rfl rfl (by omega) (by omega) (by omega)) rfl rfl ?_)) | (show wpA _ _ _ (.exit _) _ _ _ _; refine A_exit rfl ?_) | (show wpA _ _ _ (.cond _ _ _) _ _ _ _; (refine A_if rfl (fun h => ?_) (fun h => ?_) <;> try (exfalso; omega))))
              all_goals try (exfalso; omega)
              refine Shift.to ⟨_, ?_, i + 1, lit ++ [x], acc, pl, a, cq, _, rfl, ⟨by omega, by simp; omega, by omega, g4, by omega, g6⟩, rfl⟩ ⟨rfl, rfl, rfl, ⟨rfl, rfl, rfl, rfl, rfl, trivial⟩, Own.sub_refl _⟩
              omega
          · have hin : i = s.length := by omega
            subst hin
            rw [List.drop_length, scnS_nil] at g6
            have hpf := places_fls acc lit
            have e : tplE s = if 9 < pl then ([], 9) else (fls acc lit, 0) := by
              rw [tplE_def, if_neg h1, if_neg (fun h => h h2), if_neg h3, ← g6]
              simp only [hpf]
              by_cases h : 9 < places acc
              · rw [if_pos h, if_pos (by omega)]
              · rw [if_neg h, if_neg (by omega)]
            unfold ParseH
            by_cases h9 : 9 < pl
            · rw [e, if_pos h9]
              repeat' (first | refine O_nil ?_ | refine A_seq ?_ | refine A_region ?_ | refine A_skip ?_ | refine A_ret ?_ | (show opsA _ _ _ _ _ _ _; first | refine O_ev WideF.wide rfl (Ev_pure rfl) rfl rfl ?_ | (show opsA _ _ _ _ (⟨_, .call _, _, _, _, _⟩ :: _) _ _; first | refine O_ev WideF.wide rfl (Ev_slen rfl) rfl rfl ?_ | (refine O_f1 (O_ef rfl (Ef_appendR WideF.wide rfl rfl rfl rfl rfl (by simp; omega) (by simp; omega) rfl ?_)); intro a cp)) | (show opsA _ _ _ _ (⟨_, .buildSlice _ _ _, _, _, _, _⟩ :: _) _ _; (refine O_ef rfl (Ef_build1a WideF.wide rfl rfl rfl rfl rfl ?_); intro b)) | (show opsA _ _ _ _ (⟨_, .binOp _ _ _ _ _, _, _, _, _⟩ :: _) _ _; refine O_ev WideF.wide rfl (Ev_sneq rfl rfl) rfl rfl ?_) | (show opsA _ _ _ _ (⟨_, .build _ _, _, _, _, _⟩ :: _) _ _; refine O_ev WideF.wide rfl (Ev_build (vs := [(_, _)]) ⟨rfl, rfl, trivial⟩ rfl) rfl rfl ?_)) | (show wpA _ _ _ (.exit _) _ _ _ _; refine A_exit rfl ?_) | (show wpA _ _ _ (.cond _ _ _) _ _ _ _; (refine A_if rfl (fun h => ?_) (fun h => ?_) <;> try (exfalso; omega))))
              all_goals first
                | (exfalso; omega)
                | exact End_e (Ret2 rfl rfl rfl) ⟨none, 0, 0, rfl, HRow.nil' _ 3, rfl⟩
            · rw [e, if_neg h9]
              by_cases hlit : lit = []
              · subst hlit
                have hfl : fls acc [] = acc := by unfold fls; rw [if_pos rfl]
                rw [hfl]
                repeat' (first | refine O_nil ?_ | refine A_seq ?_ | refine A_region ?_ | refine A_skip ?_ | refine A_ret ?_ | (show opsA _ _ _ _ _ _ _; first | refine O_ev WideF.wide rfl (Ev_pure rfl) rfl rfl ?_ | (show opsA _ _ _ _ (⟨_, .call _, _, _, _, _⟩ :: _) _ _; first | refine O_ev WideF.wide rfl (Ev_slen rfl) rfl rfl ?_ | (refine O_f1 (O_ef rfl (Ef_appendR WideF.wide rfl rfl rfl rfl rfl (by simp; omega) (by simp; omega) rfl ?_)); intro a cp)) | (show opsA _ _ _ _ (⟨_, .buildSlice _ _ _, _, _, _, _⟩ :: _) _ _; (refine O_ef rfl (Ef_build1a WideF.wide rfl rfl rfl rfl rfl ?_); intro b)) | (show opsA _ _ _ _ (⟨_, .binOp _ _ _ _ _, _, _, _, _⟩ :: _) _ _; refine O_ev WideF.wide rfl (Ev_sneq rfl rfl) rfl rfl ?_) | (show opsA _ _ _ _ (⟨_, .build _ _, _, _, _, _⟩ :: _) _ _; refine O_ev WideF.wide rfl (Ev_build (vs := [(_, _)]) ⟨rfl, rfl, trivial⟩ rfl) rfl rfl ?_)) | (show wpA _ _ _ (.exit _) _ _ _ _; refine A_exit rfl ?_) | (show wpA _ _ _ (.cond _ _ _) _ _ _ _; (refine A_if rfl (fun h => ?_) (fun h => ?_) <;> try (exfalso; omega))))
                all_goals try (exfalso; omega)
                all_goals try (exfalso; exact absurd (rfl : ([] : List UInt8) = []) (by assumption))
                all_goals exact End_row (Ret2 rfl rfl rfl) (prow_one _) fun H' hle hr => ⟨_, _, _, rfl, hr, rfl⟩
              · have hfl : fls acc lit = acc ++ [⟨lit, 0, false⟩] := by unfold fls; rw [if_neg hlit]
                rw [hfl]
                repeat' (first | refine O_nil ?_ | refine A_seq ?_ | refine A_region ?_ | refine A_skip ?_ | refine A_ret ?_ | (show opsA _ _ _ _ _ _ _; first | refine O_ev WideF.wide rfl (Ev_pure rfl) rfl rfl ?_ | (show opsA _ _ _ _ (⟨_, .call _, _, _, _, _⟩ :: _) _ _; first | refine O_ev WideF.wide rfl (Ev_slen rfl) rfl rfl ?_ | (refine O_f1 (O_ef rfl (Ef_appendR WideF.wide rfl rfl rfl rfl rfl (by simp; omega) (by simp; omega) rfl ?_)); intro a cp)) | (show opsA _ _ _ _ (⟨_, .buildSlice _ _ _, _, _, _, _⟩ :: _) _ _; (refine O_ef rfl (Ef_build1a WideF.wide rfl rfl rfl rfl rfl ?_); intro b)) | (show opsA _ _ _ _ (⟨_, .binOp _ _ _ _ _, _, _, _, _⟩ :: _) _ _; refine O_ev WideF.wide rfl (Ev_sneq rfl rfl) rfl rfl ?_) | (show opsA _ _ _ _ (⟨_, .build _ _, _, _, _, _⟩ :: _) _ _; refine O_ev WideF.wide rfl (Ev_build (vs := [(_, _)]) ⟨rfl, rfl, trivial⟩ rfl) rfl rfl ?_)) | (show wpA _ _ _ (.exit _) _ _ _ _; refine A_exit rfl ?_) | (show wpA _ _ _ (.cond _ _ _) _ _ _ _; (refine A_if rfl (fun h => ?_) (fun h => ?_) <;> try (exfalso; omega))))
                all_goals try (exfalso; omega)
                all_goals try (exfalso; exact absurd hlit (by assumption))
                rw [fill_lit, snoc_row ⟨lit, 0, false⟩ rfl, List.length_map]
                exact End_row (Ret2 rfl rfl rfl) (prow_one _) fun H' hle hr => ⟨_, _, _, rfl, hr, rfl⟩
    · have e : tplE s = ([], 12) := by rw [tplE_def, if_neg h1, if_pos h2]
      unfold ParseH
      rw [e]
      refine Fn_of _ _ Tryz.func15 rfl Tryz.ntmps15 rfl fun c => ?_
      repeat' (first | (refine O_ef rfl (Ef_call (I := []) WideF.wide (hv _) ⟨rfl, trivial⟩ rfl ?_); rintro v H1 I1 hle1 ⟨⟨r, rfl, hr⟩, rfl⟩); have hr1 : 0 ≤ r := hr.2 h2 | refine O_nil ?_ | refine A_seq ?_ | refine A_region ?_ | refine A_ret ?_ | refine A_block ?_ | (show opsA _ _ _ _ _ _ _; first | refine O_ev WideF.wide rfl (Ev_pure rfl) rfl rfl ?_ | (show opsA _ _ _ _ (⟨_, .call _, _, _, _, _⟩ :: _) _ _; refine O_ev WideF.wide rfl (Ev_slen rfl) rfl rfl ?_)) | (show wpA _ _ _ (.cond _ _ _) _ _ _ _; (refine A_if rfl (fun h => ?_) (fun h => ?_) <;> try (exfalso; omega))))
      all_goals first
        | (exfalso; omega)
        | exact End_e (Ret2 rfl rfl rfl) ⟨none, 0, 0, rfl, HRow.nil' _ 3, rfl⟩
set_option maxRecDepth 100000 in
set_option maxHeartbeats 1000000 in
theorem written_fn {H : Hp} {p : Pt} (hp : p.lit.length ≤ 1000) (hl : I64 p.lev) : Fn Tryz.prog 53 [.agg (prow p).toArray] H [] fun v _ I => v = sv (wrtR p) ∧ I = [] := by
  obtain ⟨lit, lev, pl⟩ := p
  unfold prow wrtR wrt plc ldig
  dsimp only at hp hl ⊢
  by_cases hb : lev < 0 ∨ 9 < lev
  · rw [if_pos hb]
    refine Fn_of _ _ Tryz.func53 rfl Tryz.ntmps53 rfl fun c => ?_
    repeat' (first | refine O_nil ?_ | refine A_seq ?_ | refine A_region ?_ | refine A_ret ?_ | (show opsA _ _ _ _ _ _ _; first | (refine O_split rfl rfl (fun h => ?_) (fun h => ?_) <;> try (exfalso; omega)) | refine O_ev WideF.wide rfl (Ev_pure rfl) rfl rfl ?_ | (show opsA _ _ _ _ (⟨_, .load _ _, _, _, _, _⟩ :: _) _ _; refine O_ev WideF.wide rfl (Ev_loadB1 (i := 0) rfl rfl rfl) rfl rfl ?_) | (show opsA _ _ _ _ (⟨_, .fieldAddr _ _ _, _, _, _, _⟩ :: _) _ _; refine O_ev WideF.wide rfl (Ev_fieldAddr rfl rfl rfl) rfl rfl ?_) | (show opsA _ _ _ _ (⟨_, .box _ _, _, _, _, _⟩ :: _) _ _; (refine O_ef rfl (Ef_boxa WideF.wide rfl rfl ?_); intro b)) | refine O_skip WideF.wide rfl rfl rfl ?_) | (show wpA _ _ _ (.cond _ _ _) _ _ _ _; first | (refine A_if rfl (fun h => ?_) (fun h => ?_) <;> try (exfalso; omega)) | refine A_iftrue rfl ?_))
    all_goals first
      | (exfalso; omega)
      | exact End_e (Ret1 rfl rfl) ⟨rfl, rfl⟩
  · rw [if_neg hb]
    by_cases h0 : lev = 0
    · subst h0
      rw [if_pos rfl]
      refine Fn_of _ _ Tryz.func53 rfl Tryz.ntmps53 rfl fun c => ?_
      repeat' (first | refine O_nil ?_ | refine A_seq ?_ | refine A_region ?_ | refine A_skip ?_ | refine A_block ?_ | (show opsA _ _ _ _ _ _ _; first | (refine O_split rfl rfl (fun h => ?_) (fun h => ?_) <;> try (exfalso; omega)) | refine O_ev WideF.wide rfl (Ev_pure rfl) rfl rfl ?_ | (show opsA _ _ _ _ (⟨_, .load _ _, _, _, _, _⟩ :: _) _ _; refine O_ev WideF.wide rfl (Ev_loadB1 (i := 0) rfl rfl rfl) rfl rfl ?_) | (show opsA _ _ _ _ (⟨_, .fieldAddr _ _ _, _, _, _, _⟩ :: _) _ _; refine O_ev WideF.wide rfl (Ev_fieldAddr rfl rfl rfl) rfl rfl ?_) | (show opsA _ _ _ _ (⟨_, .box _ _, _, _, _, _⟩ :: _) _ _; (refine O_ef rfl (Ef_boxa WideF.wide rfl rfl ?_); intro b))) | (show wpA _ _ _ (.cond _ _ _) _ _ _ _; (refine A_if rfl (fun h => ?_) (fun h => ?_) <;> try (exfalso; omega))))
      all_goals try (exfalso; omega)
      all_goals
        refine A_loopu (fun m st => ∃ (i : Nat) (out : List UInt8) (b : Nat), m = lit.length - i ∧ i ≤ lit.length ∧ out = esc (lit.take i) ∧ st = ⟨50, [(1, ptr b), (4, sv out), (5, .int .i64 i)], H, [.box b [sv lit, .int .i64 0, .bool pl]], [], []⟩) ?_ ?_
        · exact Shift.to ⟨_, 0, [], _, rfl, by omega, by rw [List.take_zero]; rfl, rfl⟩ ⟨rfl, rfl, rfl, ⟨rfl, rfl, rfl, trivial⟩, Own.sub_refl _⟩
        · rintro m st ⟨i, out, b, rfl, hi, hout, rfl⟩
          have hol : out.length ≤ 2000 := by rw [hout]; have := esc_len (lit.take i); rw [List.length_take] at this; omega
          by_cases hlt : i < lit.length
          · obtain ⟨x, hx, hxi, hbt⟩ := drop_at hlt
            have hsl : (lit.take ((i : Int) + 1).toNat).drop (i : Int).toNat = [x] := by
              rw [show ((i : Int) + 1).toNat = i + 1 by omega, show (i : Int).toNat = i by omega, take_get hxi, List.drop_left' (by rw [List.length_take]; omega)]
            have hes : esc (lit.take (i + 1)) = out ++ esc [x] := by rw [take_get hxi, esc_append, hout]
            by_cases hc : x = 37
            · subst hc
              have hbt : bat lit (i : Int) = 37 := hbt
              repeat' (first | (refine O_ev WideF.wide rfl (Ev_scat rfl rfl (by rw [hsl]; simp; omega)) rfl rfl ?_; rw [hsl]) | (refine O_ev WideF.wide rfl (Ev_scat rfl rfl (by simp; omega)) rfl rfl ?_) | refine O_nil ?_ | refine A_seq ?_ | refine A_region ?_ | refine A_skip ?_ | refine A_block ?_ | (show opsA _ _ _ _ _ _ _; first | refine O_ev WideF.wide rfl (Ev_pure rfl) rfl rfl ?_ | (show opsA _ _ _ _ (⟨_, .load _ _, _, _, _, _⟩ :: _) _ _; refine O_ev WideF.wide rfl (Ev_loadB1 (i := 0) rfl rfl rfl) rfl rfl ?_) | (show opsA _ _ _ _ (⟨_, .fieldAddr _ _ _, _, _, _, _⟩ :: _) _ _; refine O_ev WideF.wide rfl (Ev_fieldAddr rfl rfl rfl) rfl rfl ?_) | (show opsA _ _ _ _ (⟨_, .call _, _, _, _, _⟩ :: _) _ _; refine O_ev WideF.wide rfl (Ev_slen rfl) rfl rfl ?_) | (show opsA _ _ _ _ (⟨_, .binOp _ _ _ _ _, _, _, _, _⟩ :: _) _ _; refine O_ev WideF.wide rfl (Ev_add rfl rfl (wi64 (by omega))) rfl rfl ?_) | (show opsA _ _ _ _ (⟨_, .index _ _ _, _, _, _, _⟩ :: _) _ _; refine O_ev WideF.wide rfl (Ev_sindex rfl rfl (by omega) (by omega)) rfl rfl ?_) | (show opsA _ _ _ _ (⟨_, .slice _ _ _ _ _, _, _, _, _⟩ :: _) _ _; refine O_ev WideF.wide rfl (Ev_sslice rfl rfl rfl (by omega) (by omega) (by omega)) rfl rfl ?_)) | (show wpA _ _ _ (.cond _ _ _) _ _ _ _; (refine A_if rfl (fun h => ?_) (fun h => ?_) <;> try (exfalso; omega))))
              all_goals try (exfalso; omega)
              refine Shift.to ⟨_, ?_, i + 1, out ++ [37] ++ [37], _, rfl, by omega, ?_, rfl⟩ ⟨rfl, rfl, rfl, ⟨rfl, rfl, rfl, trivial⟩, Own.sub_refl _⟩
              · omega
              · rw [hes]; simp [esc]
            · have hbt : ¬ bat lit (i : Int) = 37 := fun h => hc (UInt8.toNat_inj.1 (by rw [h] at hbt; show x.toNat = 37; omega))
              repeat' (first | (refine O_ev WideF.wide rfl (Ev_scat rfl rfl (by rw [hsl]; simp; omega)) rfl rfl ?_; rw [hsl]) | refine O_nil ?_ | refine A_seq ?_ | refine A_region ?_ | refine A_skip ?_ | refine A_block ?_ | (show opsA _ _ _ _ _ _ _; first | refine O_ev WideF.wide rfl (Ev_pure rfl) rfl rfl ?_ | (show opsA _ _ _ _ (⟨_, .load _ _, _, _, _, _⟩ :: _) _ _; refine O_ev WideF.wide rfl (Ev_loadB1 (i := 0) rfl rfl rfl) rfl rfl ?_) | (show opsA _ _ _ _ (⟨_, .fieldAddr _ _ _, _, _, _, _⟩ :: _) _ _; refine O_ev WideF.wide rfl (Ev_fieldAddr rfl rfl rfl) rfl rfl ?_) | (show opsA _ _ _ _ (⟨_, .call _, _, _, _, _⟩ :: _) _ _; refine O_ev WideF.wide rfl (Ev_slen rfl) rfl rfl ?_) | (show opsA _ _ _ _ (⟨_, .binOp _ _ _ _ _, _, _, _, _⟩ :: _) _ _; refine O_ev WideF.wide rfl (Ev_add rfl rfl (wi64 (by omega))) rfl rfl ?_) | (show opsA _ _ _ _ (⟨_, .index _ _ _, _, _, _, _⟩ :: _) _ _; refine O_ev WideF.wide rfl (Ev_sindex rfl rfl (by omega) (by omega)) rfl rfl ?_) | (show opsA _ _ _ _ (⟨_, .slice _ _ _ _ _, _, _, _, _⟩ :: _) _ _; refine O_ev WideF.wide rfl (Ev_sslice rfl rfl rfl (by omega) (by omega) (by omega)) rfl rfl ?_)) | (show wpA _ _ _ (.cond _ _ _) _ _ _ _; (refine A_if rfl (fun h => ?_) (fun h => ?_) <;> try (exfalso; omega))))
              all_goals try (exfalso; omega)
              refine Shift.to ⟨_, ?_, i + 1, out ++ [x], _, rfl, by omega, ?_, rfl⟩ ⟨rfl, rfl, rfl, ⟨rfl, rfl, rfl, trivial⟩, Own.sub_refl _⟩
              · omega
              · rw [hes]; simp [esc, hc]
          · rw [List.take_of_length_le (by omega)] at hout
            subst hout
            repeat' (first | refine O_nil ?_ | refine A_seq ?_ | refine A_region ?_ | refine A_ret ?_ | (show opsA _ _ _ _ _ _ _; first | refine O_ev WideF.wide rfl (Ev_pure rfl) rfl rfl ?_ | (show opsA _ _ _ _ (⟨_, .load _ _, _, _, _, _⟩ :: _) _ _; refine O_ev WideF.wide rfl (Ev_loadB1 (i := 0) rfl rfl rfl) rfl rfl ?_) | (show opsA _ _ _ _ (⟨_, .fieldAddr _ _ _, _, _, _, _⟩ :: _) _ _; refine O_ev WideF.wide rfl (Ev_fieldAddr rfl rfl rfl) rfl rfl ?_) | (show opsA _ _ _ _ (⟨_, .call _, _, _, _, _⟩ :: _) _ _; refine O_ev WideF.wide rfl (Ev_slen rfl) rfl rfl ?_)) | (show wpA _ _ _ (.exit _) _ _ _ _; refine A_exit rfl ?_) | (show wpA _ _ _ (.cond _ _ _) _ _ _ _; (refine A_if rfl (fun h => ?_) (fun h => ?_) <;> try (exfalso; omega))))
            all_goals first
              | (exfalso; omega)
              | exact End_e (Ret1 rfl rfl) ⟨rfl, rfl⟩
    · rw [if_neg h0]
      cases pl with
      | true =>
        rw [if_pos rfl]
        refine Fn_of _ _ Tryz.func53 rfl Tryz.ntmps53 rfl fun c => ?_
        repeat' (first | (refine O_ev WideF.wide rfl (Ev_conv (k2 := .u8) rfl (wu8 (by omega))) rfl rfl ?_) | (refine O_ev WideF.wide rfl (Ev_conv1 (i := 0) rfl rfl (by omega)) rfl rfl ?_) | (refine O_ev WideF.wide rfl (Ev_scat rfl rfl (by simp)) rfl rfl ?_) | refine O_nil ?_ | refine A_seq ?_ | refine A_region ?_ | refine A_skip ?_ | refine A_ret ?_ | (show opsA _ _ _ _ _ _ _; first | (refine O_split rfl rfl (fun h => ?_) (fun h => ?_) <;> try (exfalso; omega)) | refine O_ev WideF.wide rfl (Ev_pure rfl) rfl rfl ?_ | (show opsA _ _ _ _ (⟨_, .load _ _, _, _, _, _⟩ :: _) _ _; refine O_ev WideF.wide rfl (Ev_loadB1 (i := 0) rfl rfl rfl) rfl rfl ?_) | (show opsA _ _ _ _ (⟨_, .fieldAddr _ _ _, _, _, _, _⟩ :: _) _ _; refine O_ev WideF.wide rfl (Ev_fieldAddr rfl rfl rfl) rfl rfl ?_) | (show opsA _ _ _ _ (⟨_, .buildSlice _ _ _, _, _, _, _⟩ :: _) _ _; (refine O_ef rfl (Ef_build11 WideF.wide rfl rfl rfl ?_); intro b)) | (show opsA _ _ _ _ (⟨_, .binOp _ _ _ _ _, _, _, _, _⟩ :: _) _ _; refine O_ev WideF.wide rfl (Ev_add rfl rfl (wi64 (by omega))) rfl rfl ?_) | (show opsA _ _ _ _ (⟨_, .box _ _, _, _, _, _⟩ :: _) _ _; (refine O_ef rfl (Ef_boxa WideF.wide rfl rfl ?_); intro b))) | (show wpA _ _ _ (.cond _ _ _) _ _ _ _; first | (refine A_if rfl (fun h => ?_) (fun h => ?_) <;> try (exfalso; omega)) | refine A_iftrue rfl ?_))
        all_goals first
          | (exfalso; omega)
          | exact End_e (Ret1 rfl rfl) ⟨rfl, rfl⟩
      | false =>
        rw [if_neg (by decide)]
        refine Fn_of _ _ Tryz.func53 rfl Tryz.ntmps53 rfl fun c => ?_
        repeat' (first | (refine O_ev WideF.wide rfl (Ev_conv (k2 := .u8) rfl (wu8 (by omega))) rfl rfl ?_) | (refine O_ev WideF.wide rfl (Ev_conv1 (i := 0) rfl rfl (by omega)) rfl rfl ?_) | (refine O_ev WideF.wide rfl (Ev_scat rfl rfl (by simp)) rfl rfl ?_) | refine O_nil ?_ | refine A_seq ?_ | refine A_region ?_ | refine A_skip ?_ | refine A_ret ?_ | (show opsA _ _ _ _ _ _ _; first | (refine O_split rfl rfl (fun h => ?_) (fun h => ?_) <;> try (exfalso; omega)) | refine O_ev WideF.wide rfl (Ev_pure rfl) rfl rfl ?_ | (show opsA _ _ _ _ (⟨_, .load _ _, _, _, _, _⟩ :: _) _ _; refine O_ev WideF.wide rfl (Ev_loadB1 (i := 0) rfl rfl rfl) rfl rfl ?_) | (show opsA _ _ _ _ (⟨_, .fieldAddr _ _ _, _, _, _, _⟩ :: _) _ _; refine O_ev WideF.wide rfl (Ev_fieldAddr rfl rfl rfl) rfl rfl ?_) | (show opsA _ _ _ _ (⟨_, .buildSlice _ _ _, _, _, _, _⟩ :: _) _ _; (refine O_ef rfl (Ef_build11 WideF.wide rfl rfl rfl ?_); intro b)) | (show opsA _ _ _ _ (⟨_, .binOp _ _ _ _ _, _, _, _, _⟩ :: _) _ _; refine O_ev WideF.wide rfl (Ev_add rfl rfl (wi64 (by omega))) rfl rfl ?_) | (show opsA _ _ _ _ (⟨_, .box _ _, _, _, _, _⟩ :: _) _ _; (refine O_ef rfl (Ef_boxa WideF.wide rfl rfl ?_); intro b))) | (show wpA _ _ _ (.cond _ _ _) _ _ _ _; first | (refine A_if rfl (fun h => ?_) (fun h => ?_) <;> try (exfalso; omega)) | refine A_iffalse rfl ?_))
        all_goals first
          | (exfalso; omega)
          | exact End_e (Ret1 rfl rfl) ⟨rfl, rfl⟩
end Go.Proofs.YtaneeaojlkenmaaGreatDoor
