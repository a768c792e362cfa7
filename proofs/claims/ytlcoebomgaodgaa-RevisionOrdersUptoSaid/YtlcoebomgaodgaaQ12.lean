/-
  RevisionChecks, RevisionFresh.
-/
import Derived.Test.YtlcoebomgaodgaaQ11
namespace Go.Proofs.Ytlcoebomgaodgaa
open Go
set_option linter.unusedVariables false
set_option linter.unusedSimpArgs false
/-- the size of an argument -/
def FineL (l : List Rev) (n : Nat) : Prop := n < 1099511627776 ∧ ∀ r ∈ l, r.author.length < 1099511627776
attribute [local irreducible] wpA opsA drJ drQ drE Ef Ev Shift Fn
theorem RevsIs.at' {l : List Rev} {v : Value} {H : Hp} {I : Own} (h : RevsIs l v H I) : (∃ a c, v = .slice a l.length c ∧ HRow H a l.length c 3 (l.map rrow) ∧ l.length ≤ c) ∧ I = [] := RevsIs.at rfl h
set_option maxRecDepth 100000 in
set_option maxHeartbeats 1000000 in
theorem RevisionChecks_fn {H : Hp} {a : Option Addr} {n cq : Nat} {l : List Rev} {r : Rev} (hx : HRow H a n cq 3 (l.map rrow)) (hl : FineL l n) (hr : r.author.length < 1099511627776) :
    Fn Try.prog 3 [.agg (rrow r).toArray, .slice a n cq] H [] fun v _ I => v = .bool true ∧ I = [] := by
  have hc := cut_fn hx hl.1 hl.2
  have ho := fun Hx => one_fn (H := Hx) hr
  have h1 := fun Hx => CheckRev_fn (H := Hx) (r := one60 r)
  have h2 := fun Hx => lcheckRev_fn (H := Hx) (r := one60 r)
  refine Fn_of _ _ Try.func3 rfl Try.ntmps3 rfl fun c => ?_
  repeat' (first | (refine O_ef rfl (Ef_callp WideF.wide (ho _) ⟨rfl, trivial⟩ rfl ?_)) | (refine O_ef rfl (Ef_call (I := []) WideF.wide hc ⟨rfl, trivial⟩ rfl ?_); rintro v H1 I1 hle1 ⟨⟨a1, n1, c1, rfl, r1⟩, rfl⟩) | (refine A_drawL WideF.wide (.e 0 (.q 1 (.q 2 (.q 4 (.e 3 (.e 5 (.q 6 (.q 7 (.q 8 (.q 9 (.q 11 (.e 10 (.e 12 (.q 13 (.q 14 (.q 15 (.done []))))))))))))))))) [] (by decide +kernel) ?_) | (refine E_ef rfl (Ef_call (I := []) WideF.wide known_fn trivial rfl ?_); rintro v H2 I2 hle2 ⟨rfl, rfl⟩; refine ⟨⟨hle2, rfl⟩, ?_⟩) | (refine E_ef rfl (Ef_callp WideF.wide (h1 _) ⟨rfl, trivial⟩ rfl ?_); refine ⟨Grow.same rfl rfl, ?_⟩) | (refine E_ef rfl (Ef_callp WideF.wide (h2 _) ⟨rfl, trivial⟩ rfl ?_); refine ⟨Grow.same rfl rfl, ?_⟩) | (refine E_ef rfl (Ef_callp WideF.wide (Check_fn (r1.mono hle2)) ⟨rfl, trivial⟩ rfl ?_); refine ⟨Grow.same rfl rfl, ?_⟩) | (refine E_ef rfl (Ef_callp WideF.wide (lcheck_fn (r1.mono hle2)) ⟨rfl, trivial⟩ rfl ?_); refine ⟨Grow.same rfl rfl, ?_⟩) | (refine D_ev rfl (Ev_eqis rfl rfl) rfl rfl ?_) | refine O_nil ?_ | refine A_seq ?_ | refine A_region ?_ | refine A_ret ?_ | (show drJ _ _ _ _ _ _ _ (.q _ _) _; refine D_q rfl ?_) | (show drJ _ _ _ _ _ _ _ (.e _ _) _; refine D_e rfl ?_) | (show drJ _ _ _ _ _ _ _ (.done _) _; refine D_done ?_; simp only [List.cons_append, List.nil_append]) | (show drQ _ _ _ _ _ _; first | refine D_ev rfl (Ev_pure rfl) rfl rfl ?_ | (show drQ _ _ _ ⟨_, .load _ _, _, _, _, _⟩ _ _; refine D_ev rfl (Ev_loadB (i := 0) rfl rfl rfl) rfl rfl ?_)) | (show opsA _ _ _ _ _ _ _; first | refine O_ev WideF.wide rfl (Ev_pure rfl) rfl rfl ?_ | (show opsA _ _ _ _ (⟨_, .load _ _, _, _, _, _⟩ :: _) _ _; refine O_ev WideF.wide rfl (Ev_loadB (i := 0) rfl rfl rfl) rfl rfl ?_) | (show opsA _ _ _ _ (⟨_, .box _ _, _, _, _, _⟩ :: _) _ _; (refine O_ef rfl (Ef_boxa WideF.wide rfl rfl ?_); intro b)) | (show opsA _ _ _ _ (⟨_, .store _ _ _, _, _, _, _⟩ :: _) _ _; refine O_ef rfl (Ef_storew WideF.wide rfl rfl rfl rfl rfl ?_))))
  exact End_e (Ret1 rfl rfl) ⟨rfl, rfl⟩
set_option maxRecDepth 100000 in
set_option maxHeartbeats 1000000 in
theorem RevisionFresh_fn {H : Hp} {a : Option Addr} {n cq : Nat} {l : List Rev} (hx : HRow H a n cq 3 (l.map rrow)) (hl : FineL l n) :
    Fn Try.prog 4 [.slice a n cq] H [] fun v _ I => v = .bool true ∧ I = [] := by
  have hc := (cut_fn hx hl.1 hl.2).mono fun v H' I' h => h.at'
  have hm := cutL_len l
  generalize cutL l = m at hc hm
  have hf := fun Hx a1 c1 (r1 : HRow Hx a1 m.length c1 3 (m.map rrow)) => Fresh_fn r1
  have hk := fun Hx a1 c1 (r1 : HRow Hx a1 m.length c1 3 (m.map rrow)) => lcheck_fn r1
  unfold freshV at hf
  by_cases h0 : chk m = 0
  · have hz := chk_zero.1 h0
    rw [h0] at hk
    by_cases hn : m.length = 0
    · have e : freshE m = (1, 0) := by unfold freshE; rw [if_neg (by simpa using h0), if_pos (List.length_eq_zero_iff.1 hn)]
      rw [e] at hf
      dsimp only at hf
      rw [hn] at hc hf hk
      refine Fn_of _ _ Try.func4 rfl Try.ntmps4 rfl fun c => ?_
      repeat' (first | (refine O_ef rfl (Ef_call (I := []) WideF.wide hc ⟨rfl, trivial⟩ rfl ?_); rintro v H1 I1 hle1 ⟨⟨a1, c1, rfl, r1, _⟩, rfl⟩) | (refine O_ef rfl (Ef_callp WideF.wide (hf _ _ _ r1) ⟨rfl, trivial⟩ rfl ?_)) | (refine O_ef rfl (Ef_call (I := []) WideF.wide known_fn trivial rfl ?_); rintro v H2 I2 hle2 ⟨rfl, rfl⟩) | (refine O_ef rfl (Ef_callp WideF.wide (hk _ _ _ (r1.mono hle2)) ⟨rfl, trivial⟩ rfl ?_)) | (refine O_ev WideF.wide rfl (Ev_eqis rfl rfl) rfl rfl ?_) | refine O_nil ?_ | refine A_seq ?_ | refine A_region ?_ | refine A_skip ?_ | refine A_ret ?_ | (show opsA _ _ _ _ _ _ _; first | refine O_ev WideF.wide rfl (Ev_pure rfl) rfl rfl ?_ | (show opsA _ _ _ _ (⟨_, .call _, _, _, _, _⟩ :: _) _ _; refine O_ev WideF.wide rfl (Ev_llen rfl) rfl rfl ?_) | (show opsA _ _ _ _ (⟨_, .unOp _ _ _, _, _, _, _⟩ :: _) _ _; refine O_ev WideF.wide rfl (Ev_notb rfl) rfl rfl ?_)) | (show wpA _ _ _ (.cond _ _ _) _ _ _ _; first | (refine A_if rfl (fun h => ?_) (fun h => ?_) <;> try (exfalso; omega)) | refine A_iffalse rfl ?_))
      all_goals first
        | (exfalso; omega)
        | exact End_e (Ret1 rfl rfl) ⟨rfl, rfl⟩
    · obtain ⟨y, hy⟩ : ∃ y, m[m.length - 1]? = some y := ⟨m[m.length - 1], List.getElem?_eq_getElem (by omega)⟩
      have hid := chkRev_id (hz.2.1 y (List.mem_of_getElem? hy))
      have hj : (m.length : Int) - 1 = ((m.length - 1 : Nat) : Int) := by omega
      have hla := last_at rfl (by omega) hy
      have hl : m ≠ [] := fun h => hn (by rw [h]; rfl)
      have hat := fun Hx a1 c1 (r1 : HRow Hx a1 m.length c1 3 (m.map rrow)) => (show ∃ b o, a1 = some ⟨b, o, none⟩ ∧ HCells Hx b (o + (m.length - 1) * 3) (rrow y) by
        obtain ⟨b, o, y', ha, hy', hc⟩ := r1.atm (m.length - 1) (by omega)
        rw [hy] at hy'
        cases hy'
        exact ⟨b, o, ha, hc⟩)
      generalize hN : m.length = N at hc hf hk hat hj hn hm
      by_cases hbg : 1073741824 < y.id + 1
      · have e : freshE m = (0, 9) := by unfold freshE; rw [if_neg (by simpa using h0), if_neg hl, hla, if_pos hbg]
        rw [e] at hf
        dsimp only at hf
        refine Fn_of _ _ Try.func4 rfl Try.ntmps4 rfl fun c => ?_
        repeat' (first | (refine O_ef rfl (Ef_call (I := []) WideF.wide hc ⟨rfl, trivial⟩ rfl ?_); rintro v H1 I1 hle1 ⟨⟨a1, c1, rfl, r1, _⟩, rfl⟩; obtain ⟨b, o, rfl, hcl⟩ := hat _ _ _ r1; unfold rrow at hcl) | (refine O_ef rfl (Ef_callp WideF.wide (hf _ _ _ r1) ⟨rfl, trivial⟩ rfl ?_)) | (refine O_ef rfl (Ef_call (I := []) WideF.wide known_fn trivial rfl ?_); rintro v H2 I2 hle2 ⟨rfl, rfl⟩) | (refine O_ef rfl (Ef_callp WideF.wide (hk _ _ _ (r1.mono hle2)) ⟨rfl, trivial⟩ rfl ?_)) | (refine O_ev WideF.wide rfl (Ev_eqis rfl rfl) rfl rfl ?_) | (refine O_ev WideF.wide rfl (Ev_sub rfl rfl (wi64 (by omega))) rfl rfl ?_; rw [hj]) | (refine O_ev WideF.wide rfl (Ev_loadH1 rfl (hle2 _ _ _ (hcl 0 _ rfl))) rfl rfl ?_) | refine O_nil ?_ | refine A_seq ?_ | refine A_region ?_ | refine A_skip ?_ | refine A_ret ?_ | (show opsA _ _ _ _ _ _ _; first | refine O_ev WideF.wide rfl (Ev_pure rfl) rfl rfl ?_ | (show opsA _ _ _ _ (⟨_, .indexAddr _ _ _, _, _, _, _⟩ :: _) _ _; refine O_ev WideF.wide rfl (Ev_indexAddr rfl rfl (by omega) (by omega)) rfl rfl ?_) | (show opsA _ _ _ _ (⟨_, .fieldAddr _ _ _, _, _, _, _⟩ :: _) _ _; refine O_ev WideF.wide rfl (Ev_fieldAddr rfl rfl rfl) rfl rfl ?_) | (show opsA _ _ _ _ (⟨_, .call _, _, _, _, _⟩ :: _) _ _; refine O_ev WideF.wide rfl (Ev_llen rfl) rfl rfl ?_) | (show opsA _ _ _ _ (⟨_, .binOp _ _ _ _ _, _, _, _, _⟩ :: _) _ _; refine O_ev WideF.wide rfl (Ev_add rfl rfl (wi64 (by omega))) rfl rfl ?_) | (show opsA _ _ _ _ (⟨_, .unOp _ _ _, _, _, _, _⟩ :: _) _ _; refine O_ev WideF.wide rfl (Ev_notb rfl) rfl rfl ?_)) | (show wpA _ _ _ (.cond _ _ _) _ _ _ _; first | (refine A_if rfl (fun h => ?_) (fun h => ?_) <;> try (exfalso; omega)) | refine A_iffalse rfl ?_))
        all_goals first
          | (exfalso; omega)
          | exact End_e (Ret1 rfl rfl) ⟨rfl, rfl⟩
      · have e : freshE m = (y.id + 1, 0) := by unfold freshE; rw [if_neg (by simpa using h0), if_neg hl, hla, if_neg hbg]
        rw [e] at hf
        dsimp only at hf
        refine Fn_of _ _ Try.func4 rfl Try.ntmps4 rfl fun c => ?_
        repeat' (first | (refine O_ef rfl (Ef_call (I := []) WideF.wide hc ⟨rfl, trivial⟩ rfl ?_); rintro v H1 I1 hle1 ⟨⟨a1, c1, rfl, r1, _⟩, rfl⟩; obtain ⟨b, o, rfl, hcl⟩ := hat _ _ _ r1; unfold rrow at hcl) | (refine O_ef rfl (Ef_callp WideF.wide (hf _ _ _ r1) ⟨rfl, trivial⟩ rfl ?_)) | (refine O_ef rfl (Ef_call (I := []) WideF.wide known_fn trivial rfl ?_); rintro v H2 I2 hle2 ⟨rfl, rfl⟩) | (refine O_ef rfl (Ef_callp WideF.wide (hk _ _ _ (r1.mono hle2)) ⟨rfl, trivial⟩ rfl ?_)) | (refine O_ev WideF.wide rfl (Ev_eqis rfl rfl) rfl rfl ?_) | (refine O_ev WideF.wide rfl (Ev_sub rfl rfl (wi64 (by omega))) rfl rfl ?_; rw [hj]) | (refine O_ev WideF.wide rfl (Ev_loadH1 rfl (hle2 _ _ _ (hcl 0 _ rfl))) rfl rfl ?_) | refine O_nil ?_ | refine A_seq ?_ | refine A_region ?_ | refine A_skip ?_ | refine A_ret ?_ | (show opsA _ _ _ _ _ _ _; first | refine O_ev WideF.wide rfl (Ev_pure rfl) rfl rfl ?_ | (show opsA _ _ _ _ (⟨_, .indexAddr _ _ _, _, _, _, _⟩ :: _) _ _; refine O_ev WideF.wide rfl (Ev_indexAddr rfl rfl (by omega) (by omega)) rfl rfl ?_) | (show opsA _ _ _ _ (⟨_, .fieldAddr _ _ _, _, _, _, _⟩ :: _) _ _; refine O_ev WideF.wide rfl (Ev_fieldAddr rfl rfl rfl) rfl rfl ?_) | (show opsA _ _ _ _ (⟨_, .call _, _, _, _, _⟩ :: _) _ _; refine O_ev WideF.wide rfl (Ev_llen rfl) rfl rfl ?_) | (show opsA _ _ _ _ (⟨_, .binOp _ _ _ _ _, _, _, _, _⟩ :: _) _ _; refine O_ev WideF.wide rfl (Ev_add rfl rfl (wi64 (by omega))) rfl rfl ?_) | (show opsA _ _ _ _ (⟨_, .unOp _ _ _, _, _, _, _⟩ :: _) _ _; refine O_ev WideF.wide rfl (Ev_notb rfl) rfl rfl ?_)) | (show wpA _ _ _ (.cond _ _ _) _ _ _ _; first | (refine A_if rfl (fun h => ?_) (fun h => ?_) <;> try (exfalso; omega)) | refine A_iffalse rfl ?_))
        all_goals first
          | (exfalso; omega)
          | exact End_e (Ret1 rfl rfl) ⟨rfl, rfl⟩
  · have e : freshE m = (0, chk m) := by unfold freshE; rw [if_pos h0]
    rw [e] at hf
    dsimp only at hf
    refine Fn_of _ _ Try.func4 rfl Try.ntmps4 rfl fun c => ?_
    repeat' (first | (refine O_ef rfl (Ef_call (I := []) WideF.wide hc ⟨rfl, trivial⟩ rfl ?_); rintro v H1 I1 hle1 ⟨⟨a1, c1, rfl, r1, _⟩, rfl⟩) | (refine O_ef rfl (Ef_callp WideF.wide (hf _ _ _ r1) ⟨rfl, trivial⟩ rfl ?_)) | (refine O_ef rfl (Ef_call (I := []) WideF.wide known_fn trivial rfl ?_); rintro v H2 I2 hle2 ⟨rfl, rfl⟩) | (refine O_ef rfl (Ef_callp WideF.wide (hk _ _ _ (r1.mono hle2)) ⟨rfl, trivial⟩ rfl ?_)) | (refine O_ev WideF.wide rfl (Ev_eqis rfl rfl) rfl rfl ?_) | refine O_nil ?_ | refine A_seq ?_ | refine A_region ?_ | refine A_skip ?_ | refine A_ret ?_ | (show opsA _ _ _ _ _ _ _; first | refine O_ev WideF.wide rfl (Ev_pure rfl) rfl rfl ?_ | (show opsA _ _ _ _ (⟨_, .unOp _ _ _, _, _, _, _⟩ :: _) _ _; refine O_ev WideF.wide rfl (Ev_notb rfl) rfl rfl ?_)) | (show wpA _ _ _ (.cond _ _ _) _ _ _ _; first | (refine A_if rfl (fun h => ?_) (fun h => ?_) <;> try (exfalso; omega)) | refine A_iffalse rfl ?_))
    all_goals first
      | (exfalso; omega)
      | (exfalso; exact h0 (by assumption))
      | exact End_e (Ret1 rfl rfl) ⟨rfl, rfl⟩
end Go.Proofs.Ytlcoebomgaodgaa
