/-
  The law's few and selects; RevisionSelects.
-/
import Derived.Test.YtlcoebomgaodgaaQ13
namespace Go.Proofs.Ytlcoebomgaodgaa
open Go
set_option linter.unusedVariables false
set_option linter.unusedSimpArgs false
def fewF (f : Filt) : Filt := ⟨f.authors.take 10, f.frm, f.til, f.ids.take 40⟩
theorem take_some {α : Type} {g : α → List Value} {H : Hp} {a : Option Addr} {n cq : Nat} {l : List α} (m : Nat) (hx : HRow H a n cq 1 (l.map g)) : HRow H a (if (m : Int) < (n : Int) then (m : Int) else (n : Int)).toNat cq 1 ((l.take m).map g) ∧ (if (m : Int) < (n : Int) then (m : Int) else (n : Int)).toNat ≤ m := by
  have e1 : l.length = n := by have := hx.len; simpa using this
  by_cases h : m < n
  · rw [if_pos (by omega)]
    exact ⟨(hx.upto (j := m) (by omega)).cong List.map_take, by omega⟩
  · rw [if_neg (by omega)]
    refine ⟨?_, by omega⟩
    rw [List.take_of_length_le (by omega)]
    exact hx
theorem insI_spot {l : List Int} {x : Int} {i : Nat} (h : Spot l x i) (hx : x ∉ l) : insI l x = l.take i ++ x :: l.drop i := by
  unfold insI
  rw [if_neg hx, atK_spot h hx l.length h.le (Nat.le_refl _)]
theorem insI_inc {l : List Int} {x : Int} (hs : Inc l) : Inc (insI l x) := by
  by_cases hx : x ∈ l
  · unfold insI; rw [if_pos hx]; exact hs
  · obtain ⟨i, hi⟩ := spot_ex hs x
    rw [insI_spot hi hx]
    exact inc_put hs hi hx
theorem insI_mem {l : List Int} {x y : Int} : y ∈ insI l x ↔ y ∈ l ∨ y = x := by
  unfold insI
  by_cases hx : x ∈ l
  · rw [if_pos hx]
    constructor
    · exact .inl
    · rintro (h | rfl)
      · exact h
      · exact hx
  · rw [if_neg hx]
    have h := congrArg (y ∈ ·) (List.take_append_drop (atK l x l.length) l)
    simp only [List.mem_append, eq_iff_iff] at h
    simp only [List.mem_append, List.mem_cons, ← h]
    constructor
    · rintro (h | h | h)
      · exact .inl (.inl h)
      · exact .inr h
      · exact .inl (.inr h)
    · rintro ((h | h) | h)
      · exact .inl h
      · exact .inr (.inr h)
      · exact .inr (.inl h)
theorem insI_len (l : List Int) (x : Int) : (insI l x).length ≤ l.length + 1 := by
  unfold insI
  have := atK_le l x l.length
  split
  · omega
  · simp; omega
attribute [local irreducible] wpA opsA drJ drQ drE Ef Ev Shift Fn
set_option maxRecDepth 100000 in
set_option maxHeartbeats 1000000 in
theorem few_fn {H : Hp} {cs : List Value} {f : Filt} (hf : FiltH H cs f) : ∃ cs', FiltH H cs' (fewF f) ∧ FnP Try.prog 23 [.agg cs.toArray] H (.agg cs'.toArray) := by
  obtain ⟨aa, an, ac, ia, iN, ic, rfl, ha, hi, h3, h4⟩ := hf.ex
  obtain ⟨ta, ta2⟩ := take_some 10 ha
  obtain ⟨ti, ti2⟩ := take_some 40 hi
  have ca := ha.cap
  have ci := hi.cap
  refine ⟨_, ⟨⟨_, _, _, _, _, _, rfl, ta, ti, by omega, by omega⟩⟩, ?_⟩
  refine Fn_of _ _ Try.func23 rfl Try.ntmps23 rfl fun c => ?_
  repeat' (first | (refine A_drawi WideF.wide (.q 0 (.q 1 (.q 2 (.q 3 (.q 4 (.q 5 (.q 6 (.q 7 (.q 8 (.q 9 (.q 10 (.p 11 (.p 12 (.p 13 (.r (.q 14 (.e 15 (.q 16 (.e 17 (.done [])))))))))))))))))))) [14, 15, 16, 17] [0] [1] (by decide +kernel) (by decide) rfl ?_; simp only [Own.picks, Own.rget, List.cons_append, List.nil_append, List.append_nil]) | (refine D_ev rfl (Ev_mini rfl rfl) rfl rfl ?_) | (refine D_pv rfl (Ev_mini rfl rfl) rfl rfl ?_) | (refine D_ev rfl (Ev_lsliceh rfl rfl (by split <;> omega) (by split <;> omega)) rfl rfl ?_) | (refine D_pv rfl (Ev_lsliceh rfl rfl (by split <;> omega) (by split <;> omega)) rfl rfl ?_) | refine O_nil ?_ | refine A_seq ?_ | refine A_region ?_ | refine A_ret ?_ | (show drJ _ _ _ _ _ _ _ (.q _ _) _; refine D_q rfl ?_) | (show drJ _ _ _ _ _ _ _ (.e _ _) _; refine D_e rfl ?_) | (show drJ _ _ _ _ _ _ _ (.r _) _; refine D_r ?_; simp only [List.cons_append, List.nil_append]) | (show drJ _ _ _ _ _ _ _ (.done _) _; refine D_done ?_; simp only [List.cons_append, List.nil_append]) | (show drQ _ _ _ _ _ _; first | (show drQ _ _ _ ⟨_, .load _ _, _, _, _, _⟩ _ _; refine D_ev rfl (Ev_loadB1 (i := 0) rfl rfl rfl) rfl rfl ?_) | (show drQ _ _ _ ⟨_, .fieldAddr _ _ _, _, _, _, _⟩ _ _; refine D_ev rfl (Ev_fieldAddr rfl rfl rfl) rfl rfl ?_) | (show drQ _ _ _ ⟨_, .call _, _, _, _, _⟩ _ _; refine D_ev rfl (Ev_llen rfl) rfl rfl ?_)) | (show drJ _ _ _ _ _ _ _ (.p _ _) _; refine D_p rfl ?_) | (show drP _ _ _ _ _ _; (show drP _ _ _ ⟨_, .call _, _, _, _, _⟩ _ _; refine D_pv rfl (Ev_llen rfl) rfl rfl ?_)) | (show drE _ _ _ _ _ _ _; (show drE _ _ _ _ ⟨_, .store _ _ _, _, _, _, _⟩ _ _; first | (refine E_ef rfl (Ef_store1 WideF.wide rfl rfl rfl rfl rfl ?_); refine ⟨Grow.same rfl rfl, ?_⟩) | (refine E_ef rfl (Ef_f1 (Ef_store1 WideF.wide rfl rfl rfl rfl rfl ?_)); refine ⟨Grow.same rfl rfl, ?_⟩))) | (show opsA _ _ _ _ _ _ _; first | (show opsA _ _ _ _ (⟨_, .load _ _, _, _, _, _⟩ :: _) _ _; refine O_ev WideF.wide rfl (Ev_loadB (i := 0) rfl rfl rfl) rfl rfl ?_) | (show opsA _ _ _ _ (⟨_, .alloc _, _, _, _, _⟩ :: _) _ _; (refine O_ef rfl (Ef_alloc WideF.wide rfl ?_); intro b)) | (show opsA _ _ _ _ (⟨_, .box _ _, _, _, _, _⟩ :: _) _ _; (refine O_ef rfl (Ef_boxa WideF.wide rfl rfl ?_); intro b)) | (show opsA _ _ _ _ (⟨_, .store _ _ _, _, _, _, _⟩ :: _) _ _; refine O_f1 (O_ef rfl (Ef_storew WideF.wide rfl rfl rfl rfl rfl ?_)))))
  exact End_p (RetC rfl rfl (i := 0) rfl rfl) rfl
set_option maxRecDepth 100000 in
set_option maxHeartbeats 2000000 in
theorem selects_fn {H : Hp} {cs : List Value} {f : Filt} {r : Rev} (hf : FiltH H cs f) : FnP Try.prog 25 [.agg cs.toArray, .agg (rrow r).toArray] H (.bool (sel f r)) := by
  obtain ⟨aa, an, ac, ia, iN, ic, rfl, ha, hi, h3, h4⟩ := hf.ex
  have e1 : f.authors.length = an := by have := ha.len; simpa using this
  have e2 : f.ids.length = iN := by have := hi.len; simpa using this
  have hh := lhas_fn (x := r.id) hi h4
  refine Fn_of _ _ Try.func25 rfl Try.ntmps25 rfl fun c => ?_
  unfold rrow
  repeat' (first | refine O_nil ?_ | refine A_seq ?_ | refine A_region ?_ | refine A_block ?_ | (show opsA _ _ _ _ _ _ _; first | refine O_ev WideF.wide rfl (Ev_pure rfl) rfl rfl ?_ | (show opsA _ _ _ _ (⟨_, .load _ _, _, _, _, _⟩ :: _) _ _; refine O_ev WideF.wide rfl (Ev_loadB1 (i := 1) rfl rfl rfl) rfl rfl ?_) | (show opsA _ _ _ _ (⟨_, .fieldAddr _ _ _, _, _, _, _⟩ :: _) _ _; refine O_ev WideF.wide rfl (Ev_fieldAddr rfl rfl rfl) rfl rfl ?_) | (show opsA _ _ _ _ (⟨_, .call _, _, _, _, _⟩ :: _) _ _; refine O_ev WideF.wide rfl (Ev_llen rfl) rfl rfl ?_) | (show opsA _ _ _ _ (⟨_, .box _ _, _, _, _, _⟩ :: _) _ _; (refine O_ef rfl (Ef_boxa WideF.wide rfl rfl ?_); intro b))))
  refine A_loopu (fun m st => ∃ (i b2 b3 : Nat) (β : Bool), m = an - i ∧ i ≤ an ∧ (β = true ↔ f.authors = [] ∨ r.author ∈ f.authors.take i) ∧ st = ⟨62, [(2, .pointer (some ⟨b2, 0, none⟩)), (3, .pointer (some ⟨b3, 0, none⟩)), (5, .bool β), (6, .int .i64 (i : Int))], H, [.box b3 (rrow r), .box b2 [.slice aa an ac, .int .i64 f.frm, .int .i64 f.til, .slice ia iN ic]], [], []⟩) ?_ ?_
  · refine Shift.to ⟨_, 0, _, _, _, rfl, by omega, ?_, rfl⟩ ⟨rfl, rfl, rfl, ⟨rfl, rfl, rfl, rfl, trivial⟩, Own.subi [0, 1] (by decide) rfl rfl⟩
    rw [decide_eq_true_eq, List.take_zero]
    constructor
    · intro h; exact .inl (List.length_eq_zero_iff.1 (by omega))
    · rintro (h | h)
      · rw [h] at e1; simp at e1; omega
      · cases h
  · rintro m st ⟨i, b2, b3, β, rfl, hin, hβ, rfl⟩
    unfold rrow
    by_cases hlt : i < an
    · obtain ⟨b, o, y, rfl, hy, hc⟩ := ha.atm i hlt
      unfold srow at hc
      have htk : ∀ z, z ∈ f.authors.take (i + 1) ↔ z ∈ f.authors.take i ∨ z = y := fun z => by rw [take_get hy, List.mem_append, List.mem_singleton]
      cases β with
      | true =>
        repeat' (first | (refine A_drawL WideF.wide (.q 0 (.q 1 (.q 2 (.q 3 (.q 4 (.q 5 (.q 6 (.q 7 (.q 8 (.q 9 (.q 10 (.q 11 (.done []))))))))))))) [] (by decide +kernel) ?_) | refine O_nil ?_ | refine A_seq ?_ | refine A_region ?_ | refine A_skip ?_ | refine A_block ?_ | (show drJ _ _ _ _ _ _ _ (.q _ _) _; refine D_q rfl ?_) | (show drJ _ _ _ _ _ _ _ (.done _) _; refine D_done ?_; simp only [List.cons_append, List.nil_append]) | (show drQ _ _ _ _ _ _; first | refine D_ev rfl (Ev_pure rfl) rfl rfl ?_ | refine D_skip rfl rfl rfl ?_) | (show opsA _ _ _ _ _ _ _; first | refine O_ev WideF.wide rfl (Ev_pure rfl) rfl rfl ?_ | (show opsA _ _ _ _ (⟨_, .load _ _, _, _, _, _⟩ :: _) _ _; refine O_ev WideF.wide rfl (Ev_loadB1 (i := 1) rfl rfl rfl) rfl rfl ?_) | (show opsA _ _ _ _ (⟨_, .fieldAddr _ _ _, _, _, _, _⟩ :: _) _ _; refine O_ev WideF.wide rfl (Ev_fieldAddr rfl rfl rfl) rfl rfl ?_) | (show opsA _ _ _ _ (⟨_, .call _, _, _, _, _⟩ :: _) _ _; refine O_ev WideF.wide rfl (Ev_llen rfl) rfl rfl ?_) | (show opsA _ _ _ _ (⟨_, .binOp _ _ _ _ _, _, _, _, _⟩ :: _) _ _; refine O_ev WideF.wide rfl (Ev_add rfl rfl (wi64 (by omega))) rfl rfl ?_)) | (show wpA _ _ _ (.cond _ _ _) _ _ _ _; (refine A_if rfl (fun h => ?_) (fun h => ?_) <;> try (exfalso; omega))))
        all_goals first
          | (exfalso; omega)
          | (refine Shift.to ⟨_, ?_, i + 1, b2, b3, true, rfl, by omega, ?_, rfl⟩ ⟨rfl, rfl, rfl, ⟨rfl, rfl, rfl, rfl, trivial⟩, Own.subi [0, 1] (by decide) rfl rfl⟩
             · omega
             · refine ⟨fun _ => ?_, fun _ => rfl⟩
               rw [htk]
               exact (hβ.1 rfl).elim .inl fun h => .inr (.inl h))
      | false =>
        have hno : ¬ (f.authors = [] ∨ r.author ∈ f.authors.take i) := fun h => by have := hβ.2 h; cases this
        repeat' (first | (refine A_drawL WideF.wide (.q 0 (.q 1 (.q 2 (.q 3 (.q 4 (.q 5 (.q 6 (.q 7 (.q 8 (.q 9 (.q 10 (.q 11 (.done []))))))))))))) [] (by decide +kernel) ?_) | (refine D_ev rfl (Ev_loadH1 rfl (hc 0 _ rfl)) rfl rfl ?_) | refine O_nil ?_ | refine A_seq ?_ | refine A_region ?_ | refine A_skip ?_ | refine A_block ?_ | (show drJ _ _ _ _ _ _ _ (.q _ _) _; refine D_q rfl ?_) | (show drJ _ _ _ _ _ _ _ (.done _) _; refine D_done ?_; simp only [List.cons_append, List.nil_append]) | (show drQ _ _ _ _ _ _; first | refine D_ev rfl (Ev_pure rfl) rfl rfl ?_ | (show drQ _ _ _ ⟨_, .load _ _, _, _, _, _⟩ _ _; first | refine D_ev rfl (Ev_loadB1 (i := 0) rfl rfl rfl) rfl rfl ?_ | refine D_ev rfl (Ev_loadB1 (i := 1) rfl rfl rfl) rfl rfl ?_) | (show drQ _ _ _ ⟨_, .indexAddr _ _ _, _, _, _, _⟩ _ _; refine D_ev rfl (Ev_indexAddr rfl rfl (by omega) (by omega)) rfl rfl ?_) | (show drQ _ _ _ ⟨_, .fieldAddr _ _ _, _, _, _, _⟩ _ _; refine D_ev rfl (Ev_fieldAddr rfl rfl rfl) rfl rfl ?_) | (show drQ _ _ _ ⟨_, .binOp _ _ _ _ _, _, _, _, _⟩ _ _; refine D_ev rfl (Ev_seql rfl rfl) rfl rfl ?_)) | (show opsA _ _ _ _ _ _ _; first | refine O_ev WideF.wide rfl (Ev_pure rfl) rfl rfl ?_ | (show opsA _ _ _ _ (⟨_, .load _ _, _, _, _, _⟩ :: _) _ _; refine O_ev WideF.wide rfl (Ev_loadB1 (i := 1) rfl rfl rfl) rfl rfl ?_) | (show opsA _ _ _ _ (⟨_, .fieldAddr _ _ _, _, _, _, _⟩ :: _) _ _; refine O_ev WideF.wide rfl (Ev_fieldAddr rfl rfl rfl) rfl rfl ?_) | (show opsA _ _ _ _ (⟨_, .call _, _, _, _, _⟩ :: _) _ _; refine O_ev WideF.wide rfl (Ev_llen rfl) rfl rfl ?_) | (show opsA _ _ _ _ (⟨_, .binOp _ _ _ _ _, _, _, _, _⟩ :: _) _ _; refine O_ev WideF.wide rfl (Ev_add rfl rfl (wi64 (by omega))) rfl rfl ?_)) | (show wpA _ _ _ (.cond _ _ _) _ _ _ _; (refine A_if rfl (fun h => ?_) (fun h => ?_) <;> try (exfalso; omega))))
        all_goals first
          | (exfalso; omega)
          | (refine Shift.to ⟨_, ?_, i + 1, b2, b3, decide (y = r.author), rfl, by omega, ?_, rfl⟩ ⟨rfl, rfl, rfl, ⟨rfl, rfl, rfl, rfl, trivial⟩, Own.subi [0, 1] (by decide) rfl rfl⟩
             · omega
             · rw [decide_eq_true_eq, htk]
               constructor
               · intro h; exact .inr (.inr h.symm)
               · rintro (h | h | h)
                 · exact absurd (.inl h) hno
                 · exact absurd (.inr h) hno
                 · exact h.symm)
    · rw [List.take_of_length_le (by omega)] at hβ
      have hβA : β = decide (selA f r) := by
        rw [Bool.eq_iff_iff, hβ, decide_eq_true_eq]; rfl
      cases β with
      | false =>
        have hs : sel f r = false := by unfold sel; rw [← hβA]; rfl
        rw [hs]
        repeat' (first | refine O_nil ?_ | refine A_seq ?_ | refine A_region ?_ | refine A_ret ?_ | (show opsA _ _ _ _ _ _ _; first | refine O_ev WideF.wide rfl (Ev_pure rfl) rfl rfl ?_ | (show opsA _ _ _ _ (⟨_, .load _ _, _, _, _, _⟩ :: _) _ _; refine O_ev WideF.wide rfl (Ev_loadB1 (i := 1) rfl rfl rfl) rfl rfl ?_) | (show opsA _ _ _ _ (⟨_, .fieldAddr _ _ _, _, _, _, _⟩ :: _) _ _; refine O_ev WideF.wide rfl (Ev_fieldAddr rfl rfl rfl) rfl rfl ?_) | (show opsA _ _ _ _ (⟨_, .call _, _, _, _, _⟩ :: _) _ _; refine O_ev WideF.wide rfl (Ev_llen rfl) rfl rfl ?_) | refine O_skip WideF.wide rfl rfl rfl ?_) | (show wpA _ _ _ (.exit _) _ _ _ _; refine A_exit rfl ?_) | (show wpA _ _ _ (.cond _ _ _) _ _ _ _; (refine A_if rfl (fun h => ?_) (fun h => ?_) <;> try (exfalso; omega))))
        all_goals first
          | (exfalso; omega)
          | exact End_p (Ret1 rfl rfl) rfl
      | true =>
        have hs : sel f r = (decide (selT f r) && decide (selI f r)) := by unfold sel; rw [← hβA, Bool.true_and]
        rw [hs]
        by_cases hT : selT f r
        · rw [decide_eq_true hT, Bool.true_and]
          have hT' := hT
          unfold selT at hT'
          by_cases h0 : iN = 0
          · have hI : selI f r := .inl (List.length_eq_zero_iff.1 (by omega))
            rw [decide_eq_true hI]
            repeat' (first | refine O_nil ?_ | refine A_seq ?_ | refine A_region ?_ | refine A_ret ?_ | (show opsA _ _ _ _ _ _ _; first | (refine O_split rfl rfl (fun h => ?_) (fun h => ?_) <;> try (exfalso; omega)) | refine O_ev WideF.wide rfl (Ev_pure rfl) rfl rfl ?_ | (show opsA _ _ _ _ (⟨_, .load _ _, _, _, _, _⟩ :: _) _ _; first | refine O_ev WideF.wide rfl (Ev_loadB1 (i := 0) rfl rfl rfl) rfl rfl ?_ | refine O_ev WideF.wide rfl (Ev_loadB1 (i := 1) rfl rfl rfl) rfl rfl ?_) | (show opsA _ _ _ _ (⟨_, .fieldAddr _ _ _, _, _, _, _⟩ :: _) _ _; refine O_ev WideF.wide rfl (Ev_fieldAddr rfl rfl rfl) rfl rfl ?_) | (show opsA _ _ _ _ (⟨_, .call _, _, _, _, _⟩ :: _) _ _; refine O_ev WideF.wide rfl (Ev_llen rfl) rfl rfl ?_) | refine O_skip WideF.wide rfl rfl rfl ?_) | (show wpA _ _ _ (.exit _) _ _ _ _; refine A_exit rfl ?_) | (show wpA _ _ _ (.cond _ _ _) _ _ _ _; (refine A_if rfl (fun h => ?_) (fun h => ?_) <;> try (exfalso; omega))))
            all_goals first
              | (exfalso; omega)
              | exact End_p (Ret1 rfl rfl) rfl
          · have hI : decide (r.id ∈ f.ids) = decide (selI f r) := by
              rw [decide_eq_decide]
              exact ⟨.inr, fun h => h.elim (fun h => absurd (by rw [h] at e2; simpa using e2.symm) h0) id⟩
            rw [hI] at hh
            generalize decide (selI f r) = γ at hh
            repeat' (first | (refine O_ef rfl (Ef_callp WideF.wide hh ⟨rfl, rfl, trivial⟩ rfl ?_)) | refine O_nil ?_ | refine A_seq ?_ | refine A_region ?_ | refine A_ret ?_ | (show opsA _ _ _ _ _ _ _; first | (refine O_split rfl rfl (fun h => ?_) (fun h => ?_) <;> try (exfalso; omega)) | refine O_ev WideF.wide rfl (Ev_pure rfl) rfl rfl ?_ | (show opsA _ _ _ _ (⟨_, .load _ _, _, _, _, _⟩ :: _) _ _; first | refine O_ev WideF.wide rfl (Ev_loadB1 (i := 0) rfl rfl rfl) rfl rfl ?_ | refine O_ev WideF.wide rfl (Ev_loadB1 (i := 1) rfl rfl rfl) rfl rfl ?_) | (show opsA _ _ _ _ (⟨_, .fieldAddr _ _ _, _, _, _, _⟩ :: _) _ _; refine O_ev WideF.wide rfl (Ev_fieldAddr rfl rfl rfl) rfl rfl ?_) | (show opsA _ _ _ _ (⟨_, .call _, _, _, _, _⟩ :: _) _ _; refine O_ev WideF.wide rfl (Ev_llen rfl) rfl rfl ?_) | refine O_skip WideF.wide rfl rfl rfl ?_) | (show wpA _ _ _ (.exit _) _ _ _ _; refine A_exit rfl ?_) | (show wpA _ _ _ (.cond _ _ _) _ _ _ _; (refine A_if rfl (fun h => ?_) (fun h => ?_) <;> try (exfalso; omega))))
            all_goals first
              | (exfalso; omega)
              | exact End_p (Ret1 rfl rfl) rfl
        · rw [decide_eq_false hT, Bool.false_and]
          have hT' := hT
          unfold selT at hT'
          repeat' (first | refine O_nil ?_ | refine A_seq ?_ | refine A_region ?_ | refine A_ret ?_ | (show opsA _ _ _ _ _ _ _; first | (refine O_split rfl rfl (fun h => ?_) (fun h => ?_) <;> try (exfalso; omega)) | refine O_ev WideF.wide rfl (Ev_pure rfl) rfl rfl ?_ | (show opsA _ _ _ _ (⟨_, .load _ _, _, _, _, _⟩ :: _) _ _; first | refine O_ev WideF.wide rfl (Ev_loadB1 (i := 0) rfl rfl rfl) rfl rfl ?_ | refine O_ev WideF.wide rfl (Ev_loadB1 (i := 1) rfl rfl rfl) rfl rfl ?_) | (show opsA _ _ _ _ (⟨_, .fieldAddr _ _ _, _, _, _, _⟩ :: _) _ _; refine O_ev WideF.wide rfl (Ev_fieldAddr rfl rfl rfl) rfl rfl ?_) | (show opsA _ _ _ _ (⟨_, .call _, _, _, _, _⟩ :: _) _ _; refine O_ev WideF.wide rfl (Ev_llen rfl) rfl rfl ?_) | refine O_skip WideF.wide rfl rfl rfl ?_) | (show wpA _ _ _ (.exit _) _ _ _ _; refine A_exit rfl ?_) | (show wpA _ _ _ (.cond _ _ _) _ _ _ _; (refine A_if rfl (fun h => ?_) (fun h => ?_) <;> try (exfalso; omega))))
          all_goals first
            | (exfalso; omega)
            | exact End_p (Ret1 rfl rfl) rfl
set_option maxRecDepth 100000 in
set_option maxHeartbeats 4000000 in
theorem RevisionSelects_fn {H : Hp} {a : Option Addr} {n cq : Nat} {l : List Rev} {cs : List Value} {f : Filt} (hx : HRow H a n cq 3 (l.map rrow)) (hl : FineL l n) (hf : FiltH H cs f) :
    Fn Try.prog 6 [.slice a n cq, .agg cs.toArray] H [] fun v _ I => v = .bool true ∧ I = [] := by
  have hc := (cut_fn hx hl.1 hl.2).mono fun v H' I' h => h.at'
  have hm := cutL_len l
  generalize cutL l = m at hc hm
  obtain ⟨N, hN⟩ : ∃ N, N = m.length := ⟨_, rfl⟩
  rw [← hN] at hc hm
  have hfew := fun Hx (hle : HLe H Hx) => few_fn (hf.mono hle)
  obtain ⟨aa, an, ac, ia, iN, ic, rfl, _⟩ := hf.ex
  generalize fewF f = g at hfew
  refine Fn_of _ _ Try.func6 rfl Try.ntmps6 rfl fun c => ?_
  repeat' (first | (refine A_drawi WideF.wide (.q 0 (.q 2 (.e 1 (.r (.e 3 (.q 4 (.e 5 (.done [])))))))) [3, 4, 5] [] [0] (by decide +kernel) (by decide) rfl ?_; simp only [Own.picks, Own.rget, List.cons_append, List.nil_append, List.append_nil]) | (refine E_ef rfl (Ef_call (I := []) WideF.wide hc ⟨rfl, trivial⟩ rfl ?_); rintro v H1 I1 hle1 ⟨⟨a1, c1, rfl, r1, _⟩, rfl⟩; refine ⟨⟨hle1, rfl⟩, ?_⟩; obtain ⟨cs1, hg1, hcall⟩ := hfew _ hle1; obtain ⟨aa1, an1, ac1, ia1, iN1, ic1, rfl, _⟩ := hg1.ex) | (refine E_ef rfl (Ef_callp WideF.wide hcall ⟨rfl, trivial⟩ rfl ?_); refine ⟨Grow.same rfl rfl, ?_⟩) | (refine O_ef rfl (Ef_call (I := []) WideF.wide (Select_fn r1 hg1 (by omega)) ⟨rfl, rfl, trivial⟩ rfl ?_); rintro v H2 I2 hle2 ⟨⟨a2, n2, c2, rfl, r2⟩, rfl⟩) | (refine O_ef rfl (Ef_call (I := []) WideF.wide known_fn trivial rfl ?_); rintro v H3 I3 hle3 ⟨rfl, rfl⟩) | refine O_nil ?_ | refine A_seq ?_ | refine A_region ?_ | refine A_skip ?_ | refine A_block ?_ | (show drJ _ _ _ _ _ _ _ (.q _ _) _; refine D_q rfl ?_) | (show drJ _ _ _ _ _ _ _ (.e _ _) _; refine D_e rfl ?_) | (show drJ _ _ _ _ _ _ _ (.r _) _; refine D_r ?_; simp only [List.cons_append, List.nil_append]) | (show drJ _ _ _ _ _ _ _ (.done _) _; refine D_done ?_; simp only [List.cons_append, List.nil_append]) | (show drQ _ _ _ _ _ _; first | refine D_ev rfl (Ev_pure rfl) rfl rfl ?_ | (show drQ _ _ _ ⟨_, .load _ _, _, _, _, _⟩ _ _; refine D_ev rfl (Ev_loadB (i := 0) rfl rfl rfl) rfl rfl ?_)) | (show drE _ _ _ _ _ _ _; (show drE _ _ _ _ ⟨_, .store _ _ _, _, _, _, _⟩ _ _; (refine E_ef rfl (Ef_storew WideF.wide rfl rfl rfl rfl rfl ?_); refine ⟨Grow.same rfl rfl, ?_⟩))) | (show opsA _ _ _ _ _ _ _; first | refine O_ev WideF.wide rfl (Ev_pure rfl) rfl rfl ?_ | (show opsA _ _ _ _ (⟨_, .load _ _, _, _, _, _⟩ :: _) _ _; refine O_ev WideF.wide rfl (Ev_loadB (i := 0) rfl rfl rfl) rfl rfl ?_) | (show opsA _ _ _ _ (⟨_, .unOp _ _ _, _, _, _, _⟩ :: _) _ _; refine O_ev WideF.wide rfl (Ev_notb rfl) rfl rfl ?_) | (show opsA _ _ _ _ (⟨_, .box _ _, _, _, _, _⟩ :: _) _ _; (refine O_ef rfl (Ef_boxa WideF.wide rfl rfl ?_); intro b))) | (show wpA _ _ _ (.cond _ _ _) _ _ _ _; refine A_iffalse rfl ?_))
  have r1 := (r1.mono hle2).mono hle3
  have hg1 := (hg1.mono hle2).mono hle3
  have r2 := r2.mono hle3
  have l2 : n2 ≤ 100 := by
    have h1 := r2.len
    rw [List.length_map] at h1
    have h2 := compact_le (srt (selIds m g))
    have h3 : (srt (selIds m g)).length = (selIds m g).length := by simp [srt]
    have h4 := selIds_len m g
    unfold cmps at h1
    omega
  refine A_loopu (fun t st => ∃ (k b3 : Nat) (V : List Int) (av : Option Addr) (nv cv : Nat) (Hk : Hp), t = N - k ∧ k ≤ N ∧ HLe H3 Hk ∧ HRow Hk av nv cv 1 (V.map irow) ∧ nv ≤ k ∧ Inc V ∧ (∀ x, x ∈ V ↔ x ∈ selIds (m.take k) g) ∧ st = ⟨55, [(0, .slice a1 N c1), (3, .pointer (some ⟨b3, 0, none⟩)), (5, .slice a2 n2 c2), (6, .slice av nv cv), (7, .int .i64 (k : Int))], Hk, [.box b3 [.slice aa1 an1 ac1, .int .i64 g.frm, .int .i64 g.til, .slice ia1 iN1 ic1]], [], []⟩) ?_ ?_
  · exact Shift.to ⟨_, 0, _, [], none, 0, 0, H3, rfl, by omega, HLe.refl _, HRow.nil' _ 1, by omega, by simp, by simp [selIds], rfl⟩ ⟨rfl, rfl, rfl, ⟨rfl, rfl, rfl, rfl, rfl, trivial⟩, Own.subi [0] (by decide) rfl rfl⟩
  rintro t st ⟨k, b3, V, av, nv, cv, Hk, rfl, hk, hle, rv, hnv, hV, hmem, rfl⟩
  have r1 := r1.mono hle
  have r2 := r2.mono hle
  have hg1 := hg1.mono hle
  by_cases hlt : k < N
  · obtain ⟨b, o, y, rfl, hy, hcy⟩ := r1.atm k hlt
    have hcz := hcy
    unfold rrow at hcz
    have hse := selects_fn (r := y) hg1
    have hsn := selIds_snoc (m.take k) g y
    rw [← take_get hy] at hsn
    have hins := insert_fn (x := y.id) rv (by omega)
    have hil := insI_len V y.id
    have hvl := rv.len
    rw [List.length_map] at hvl
    by_cases hs : sel g y = true
    · rw [if_pos hs] at hsn
      rw [hs] at hse
      repeat' (first | (refine A_drawL WideF.wide (.q 0 (.q 1 (.q 2 (.q 3 (.q 4 (.e 5 (.done []))))))) [] (by decide +kernel) ?_) | (refine D_ev rfl (Ev_loadH rfl hcy rfl) rfl rfl ?_) | (refine E_ef rfl (Ef_callp WideF.wide hse ⟨rfl, rfl, trivial⟩ rfl ?_); refine ⟨Grow.same rfl rfl, ?_⟩) | (refine O_ev WideF.wide rfl (Ev_loadH1 rfl (hcz 0 _ rfl)) rfl rfl ?_) | (refine O_ef rfl (Ef_call (I := []) WideF.wide hins ⟨rfl, rfl, trivial⟩ rfl ?_); rintro v H6 I6 hle6 ⟨⟨a6, n6, c6, rfl, r6⟩, rfl⟩) | refine O_nil ?_ | refine A_seq ?_ | refine A_region ?_ | refine A_skip ?_ | refine A_block ?_ | (show drJ _ _ _ _ _ _ _ (.q _ _) _; refine D_q rfl ?_) | (show drJ _ _ _ _ _ _ _ (.e _ _) _; refine D_e rfl ?_) | (show drJ _ _ _ _ _ _ _ (.done _) _; refine D_done ?_; simp only [List.cons_append, List.nil_append]) | (show drQ _ _ _ _ _ _; first | refine D_ev rfl (Ev_pure rfl) rfl rfl ?_ | (show drQ _ _ _ ⟨_, .load _ _, _, _, _, _⟩ _ _; refine D_ev rfl (Ev_loadB (i := 0) rfl rfl rfl) rfl rfl ?_) | (show drQ _ _ _ ⟨_, .indexAddr _ _ _, _, _, _, _⟩ _ _; refine D_ev rfl (Ev_indexAddr rfl rfl (by omega) (by omega)) rfl rfl ?_)) | (show opsA _ _ _ _ _ _ _; first | refine O_ev WideF.wide rfl (Ev_pure rfl) rfl rfl ?_ | (show opsA _ _ _ _ (⟨_, .indexAddr _ _ _, _, _, _, _⟩ :: _) _ _; refine O_ev WideF.wide rfl (Ev_indexAddr rfl rfl (by omega) (by omega)) rfl rfl ?_) | (show opsA _ _ _ _ (⟨_, .fieldAddr _ _ _, _, _, _, _⟩ :: _) _ _; refine O_ev WideF.wide rfl (Ev_fieldAddr rfl rfl rfl) rfl rfl ?_) | (show opsA _ _ _ _ (⟨_, .call _, _, _, _, _⟩ :: _) _ _; refine O_ev WideF.wide rfl (Ev_llen rfl) rfl rfl ?_) | (show opsA _ _ _ _ (⟨_, .binOp _ _ _ _ _, _, _, _, _⟩ :: _) _ _; refine O_ev WideF.wide rfl (Ev_add rfl rfl (wi64 (by omega))) rfl rfl ?_)) | (show wpA _ _ _ (.cond _ _ _) _ _ _ _; first | (refine A_if rfl (fun h => ?_) (fun h => ?_) <;> try (exfalso; omega)) | refine A_iftrue rfl ?_))
      all_goals first
        | (exfalso; omega)
        | (refine Shift.to ⟨_, ?_, k + 1, b3, insI V y.id, _, _, _, H6, rfl, by omega, hle.trans hle6, r6, ?_, insI_inc hV, fun x => ?_, rfl⟩ ⟨rfl, rfl, rfl, ⟨rfl, rfl, rfl, rfl, rfl, trivial⟩, Own.subi [0] (by decide) rfl rfl⟩
           · omega
           · have h9 := r6.len; rw [List.length_map] at h9; omega
           · rw [insI_mem, hmem, hsn, List.mem_append, List.mem_singleton])
    · rw [if_neg hs] at hsn
      rw [Bool.not_eq_true] at hs
      rw [hs] at hse
      repeat' (first | (refine A_drawL WideF.wide (.q 0 (.q 1 (.q 2 (.q 3 (.q 4 (.e 5 (.done []))))))) [] (by decide +kernel) ?_) | (refine D_ev rfl (Ev_loadH rfl hcy rfl) rfl rfl ?_) | (refine E_ef rfl (Ef_callp WideF.wide hse ⟨rfl, rfl, trivial⟩ rfl ?_); refine ⟨Grow.same rfl rfl, ?_⟩) | refine O_nil ?_ | refine A_seq ?_ | refine A_region ?_ | refine A_skip ?_ | refine A_block ?_ | (show drJ _ _ _ _ _ _ _ (.q _ _) _; refine D_q rfl ?_) | (show drJ _ _ _ _ _ _ _ (.e _ _) _; refine D_e rfl ?_) | (show drJ _ _ _ _ _ _ _ (.done _) _; refine D_done ?_; simp only [List.cons_append, List.nil_append]) | (show drQ _ _ _ _ _ _; first | refine D_ev rfl (Ev_pure rfl) rfl rfl ?_ | (show drQ _ _ _ ⟨_, .load _ _, _, _, _, _⟩ _ _; refine D_ev rfl (Ev_loadB (i := 0) rfl rfl rfl) rfl rfl ?_) | (show drQ _ _ _ ⟨_, .indexAddr _ _ _, _, _, _, _⟩ _ _; refine D_ev rfl (Ev_indexAddr rfl rfl (by omega) (by omega)) rfl rfl ?_)) | (show opsA _ _ _ _ _ _ _; first | refine O_ev WideF.wide rfl (Ev_pure rfl) rfl rfl ?_ | (show opsA _ _ _ _ (⟨_, .call _, _, _, _, _⟩ :: _) _ _; refine O_ev WideF.wide rfl (Ev_llen rfl) rfl rfl ?_) | (show opsA _ _ _ _ (⟨_, .binOp _ _ _ _ _, _, _, _, _⟩ :: _) _ _; refine O_ev WideF.wide rfl (Ev_add rfl rfl (wi64 (by omega))) rfl rfl ?_)) | (show wpA _ _ _ (.cond _ _ _) _ _ _ _; first | (refine A_if rfl (fun h => ?_) (fun h => ?_) <;> try (exfalso; omega)) | refine A_iffalse rfl ?_))
      all_goals first
        | (exfalso; omega)
        | (refine Shift.to ⟨_, ?_, k + 1, b3, V, _, _, _, Hk, rfl, by omega, hle, rv, by omega, hV, fun x => ?_, rfl⟩ ⟨rfl, rfl, rfl, ⟨rfl, rfl, rfl, rfl, rfl, trivial⟩, Own.subi [0] (by decide) rfl rfl⟩
           · omega
           · rw [hmem, hsn])
  · rw [List.take_of_length_le (by omega)] at hmem
    have hVS : V = cmps (selIds m g) := ext_inc hV (cmps_inc _) fun x => by rw [hmem, cmps_mem]
    subst hVS
    have s1 := same_self r2 rv (by omega)
    have hA := fun Hx (hl : HLe Hk Hx) => Accept_fn (r1.mono hl) (hg1.mono hl) (by omega)
    have hR := fun Hx (hl : HLe Hk Hx) => Reject_fn (r1.mono hl) (hg1.mono hl) (by omega)
    generalize cmps (selIds m g) = S at r2 rv s1 hA hR hV hmem
    repeat' (first | (refine O_ef rfl (Ef_callp WideF.wide s1 ⟨rfl, rfl, trivial⟩ rfl ?_)) | (refine O_ef rfl (Ef_call (I := []) WideF.wide (hA _ (HLe.refl _)) ⟨rfl, rfl, trivial⟩ rfl ?_); rintro v H7 I7 hle7 ⟨⟨ua, un, uc, va, vn, vc, rfl, q1, q2⟩, rfl⟩; have hd1 := sameDecision_fn (p' := S) (q' := []) q1 q2 (rv.mono hle7) (HRow.nil' _ 1) (by have h9 := q1.len; have h8 := rv.len; rw [List.length_map] at h9 h8; omega) (by have h9 := q2.len; simp at h9; omega); rw [decide_eq_true rfl, decide_eq_true rfl] at hd1) | (refine O_ef rfl (Ef_callp WideF.wide hd1 ⟨rfl, rfl, trivial⟩ rfl ?_)) | (refine O_ef rfl (Ef_call (I := []) WideF.wide (hR _ hle7) ⟨rfl, rfl, trivial⟩ rfl ?_); rintro v H8 I8 hle8 ⟨⟨xa, xn, xc, ya, yn, yc, rfl, q3, q4⟩, rfl⟩; have hd2 := sameDecision_fn (p' := []) (q' := S) q3 q4 (HRow.nil' _ 1) ((rv.mono hle7).mono hle8) (by have h9 := q3.len; simp at h9; omega) (by have h9 := q4.len; have h8 := rv.len; rw [List.length_map] at h9 h8; omega); rw [decide_eq_true rfl, decide_eq_true rfl] at hd2) | (refine O_ef rfl (Ef_callp WideF.wide hd2 ⟨rfl, rfl, trivial⟩ rfl ?_)) | refine O_nil ?_ | refine A_seq ?_ | refine A_region ?_ | refine A_ret ?_ | (show opsA _ _ _ _ _ _ _; first | refine O_ev WideF.wide rfl (Ev_pure rfl) rfl rfl ?_ | (show opsA _ _ _ _ (⟨_, .load _ _, _, _, _, _⟩ :: _) _ _; refine O_ev WideF.wide rfl (Ev_loadB (i := 0) rfl rfl rfl) rfl rfl ?_) | (show opsA _ _ _ _ (⟨_, .call _, _, _, _, _⟩ :: _) _ _; refine O_ev WideF.wide rfl (Ev_llen rfl) rfl rfl ?_) | (show opsA _ _ _ _ (⟨_, .build _ _, _, _, _, _⟩ :: _) _ _; refine O_ev WideF.wide rfl (Ev_build (vs := [(_, _)]) ⟨rfl, rfl, trivial⟩ rfl) rfl rfl ?_)) | (show wpA _ _ _ (.exit _) _ _ _ _; refine A_exit rfl ?_) | (show wpA _ _ _ (.cond _ _ _) _ _ _ _; (refine A_if rfl (fun h => ?_) (fun h => ?_) <;> try (exfalso; omega))))
    all_goals first
      | (exfalso; omega)
      | exact End_e (Ret1 rfl rfl) ⟨rfl, rfl⟩
end Go.Proofs.Ytlcoebomgaodgaa
