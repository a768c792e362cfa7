/-
  Filters: the tests of a filter, and what they are together.
-/
import Derived.Test.YtlcoebomgaodgaaQ5
namespace Go.Proofs.Ytlcoebomgaodgaa
open Go
set_option linter.unusedVariables false
set_option linter.unusedSimpArgs false
structure Filt where
  authors : List (List UInt8)
  frm : Int
  til : Int
  ids : List Int
def srow (s : List UInt8) : List Value := [sv s]
theorem srow_one (l : List (List UInt8)) : ∀ cs ∈ l.map srow, ∀ u ∈ cs, u.oneCell' = true := by
  intro cs hcs u hu
  obtain ⟨p, _, rfl⟩ := List.mem_map.1 hcs
  simp [srow] at hu
  subst hu; rfl
/-- the cells of a filter -/
structure FiltH (H : Hp) (cs : List Value) (f : Filt) : Prop where
  ex : ∃ (aa : Option Addr) (an ac : Nat) (ia : Option Addr) (iN ic : Nat), cs = [.slice aa an ac, .int .i64 f.frm, .int .i64 f.til, .slice ia iN ic] ∧ HRow H aa an ac 1 (f.authors.map srow) ∧ HRow H ia iN ic 1 (f.ids.map irow) ∧ an < 68719476736 ∧ iN < 68719476736
theorem FiltH.mono {H H' : Hp} (hl : HLe H H') {cs : List Value} {f : Filt} : FiltH H cs f → FiltH H' cs f := fun ⟨aa, an, ac, ia, iN, ic, e, h1, h2, h3, h4⟩ => ⟨aa, an, ac, ia, iN, ic, e, h1.mono hl, h2.mono hl, h3, h4⟩
theorem FiltH.ones {H : Hp} {cs : List Value} {f : Filt} (h : FiltH H cs f) : ∀ u ∈ cs, u.oneCell' = true := by
  obtain ⟨aa, an, ac, ia, iN, ic, rfl, _⟩ := h.ex
  intro u hu
  simp at hu
  rcases hu with rfl | rfl | rfl | rfl <;> rfl
theorem FiltH.len {H : Hp} {cs : List Value} {f : Filt} (h : FiltH H cs f) : cs.length = 4 := by
  obtain ⟨aa, an, ac, ia, iN, ic, rfl, _⟩ := h.ex
  rfl
def selA (f : Filt) (r : Rev) : Prop := f.authors = [] ∨ r.author ∈ f.authors
def selT (f : Filt) (r : Rev) : Prop := f.frm ≤ r.time ∧ (f.til = 0 ∨ r.time ≤ f.til)
def selI (f : Filt) (r : Rev) : Prop := f.ids = [] ∨ r.id ∈ f.ids
instance (f : Filt) (r : Rev) : Decidable (selA f r) := by unfold selA; infer_instance
instance (f : Filt) (r : Rev) : Decidable (selT f r) := by unfold selT; infer_instance
instance (f : Filt) (r : Rev) : Decidable (selI f r) := by unfold selI; infer_instance
def sel (f : Filt) (r : Rev) : Bool := decide (selA f r) && decide (selT f r) && decide (selI f r)
abbrev ptr (b : Nat) : Value := .pointer (some ⟨b, 0, none⟩)
abbrev cval (g : FuncId) (b : Nat) : Value := .func (.func g) #[] #[ptr b]
attribute [local irreducible] wpA opsA drJ drQ drE Ef Ev Shift Fn
set_option maxRecDepth 100000 in
theorem IndexS_fn {H : Hp} {a : Option Addr} {n cq : Nat} {l : List (List UInt8)} {x : List UInt8} (hx : HRow H a n cq 1 (l.map srow)) (hm : n < 68719476736) : Fn Try.prog 78 [.slice a n cq, sv x] H [] fun v H' I' => (∃ r : Int, v = .int .i64 r ∧ (0 ≤ r ↔ x ∈ l)) ∧ H' = H ∧ I' = [] := by
  have e1 : l.length = n := by have := hx.len; simpa using this
  refine Fn_of _ _ Try.func78 rfl Try.ntmps78 rfl fun c => ?_
  repeat' (first | refine O_nil ?_ | refine A_seq ?_ | refine A_region ?_ | refine A_block ?_ | (show opsA _ _ _ _ _ _ _; first | refine O_ev WideF.wide rfl (Ev_pure rfl) rfl rfl ?_ | (show opsA _ _ _ _ (⟨_, .call _, _, _, _, _⟩ :: _) _ _; refine O_ev WideF.wide rfl (Ev_llen rfl) rfl rfl ?_)))
  refine A_loopu (fun m s => ∃ i : Nat, m = n - i ∧ i ≤ n ∧ (x ∈ l ↔ x ∈ l.drop i) ∧ s = ⟨19, [(0, .slice a n cq), (1, sv x), (7, .int .i64 n), (8, .int .i64 i)], H, [], [], []⟩) ?_ ?_
  · exact Shift.to ⟨_, 0, rfl, by omega, by rw [List.drop_zero], rfl⟩ ⟨rfl, rfl, rfl, ⟨rfl, rfl, rfl, rfl, trivial⟩, Own.sub_nil _⟩
  · rintro m s ⟨i, rfl, hi, hall, rfl⟩
    by_cases hlt : i < n
    · obtain ⟨b, o, y, rfl, hyi, hc⟩ := hx.atm i hlt
      rw [drop_get hyi, List.mem_cons] at hall
      unfold srow at hc
      by_cases hyy : x = y
      · repeat' (first | (refine O_ev WideF.wide rfl (Ev_loadH1 rfl (hc 0 _ rfl)) rfl rfl ?_) | refine O_nil ?_ | refine A_seq ?_ | refine A_region ?_ | refine A_skip ?_ | refine A_ret ?_ | refine A_block ?_ | (show opsA _ _ _ _ _ _ _; first | refine O_ev WideF.wide rfl (Ev_pure rfl) rfl rfl ?_ | (show opsA _ _ _ _ (⟨_, .indexAddr _ _ _, _, _, _, _⟩ :: _) _ _; refine O_ev WideF.wide rfl (Ev_indexAddr rfl rfl (by omega) (by omega)) rfl rfl ?_) | (show opsA _ _ _ _ (⟨_, .binOp _ _ _ _ _, _, _, _, _⟩ :: _) _ _; first | refine O_ev WideF.wide rfl (Ev_add rfl rfl (wi64 (by omega))) rfl rfl ?_ | refine O_ev WideF.wide rfl (Ev_seql rfl rfl) rfl rfl ?_)) | (show wpA _ _ _ (.cond _ _ _) _ _ _ _; (refine A_if rfl (fun h => ?_) (fun h => ?_) <;> try (exfalso; omega))))
        all_goals first
          | (exfalso; omega)
          | (exfalso; exact absurd hyy (by assumption))
          | exact End_e (Ret1 rfl rfl) ⟨⟨_, rfl, ⟨fun _ => hall.2 (.inl hyy), fun _ => by omega⟩⟩, rfl, rfl⟩
      · repeat' (first | (refine O_ev WideF.wide rfl (Ev_loadH1 rfl (hc 0 _ rfl)) rfl rfl ?_) | refine O_nil ?_ | refine A_seq ?_ | refine A_region ?_ | refine A_skip ?_ | refine A_ret ?_ | refine A_block ?_ | (show opsA _ _ _ _ _ _ _; first | refine O_ev WideF.wide rfl (Ev_pure rfl) rfl rfl ?_ | (show opsA _ _ _ _ (⟨_, .indexAddr _ _ _, _, _, _, _⟩ :: _) _ _; refine O_ev WideF.wide rfl (Ev_indexAddr rfl rfl (by omega) (by omega)) rfl rfl ?_) | (show opsA _ _ _ _ (⟨_, .binOp _ _ _ _ _, _, _, _, _⟩ :: _) _ _; first | refine O_ev WideF.wide rfl (Ev_add rfl rfl (wi64 (by omega))) rfl rfl ?_ | refine O_ev WideF.wide rfl (Ev_seql rfl rfl) rfl rfl ?_)) | (show wpA _ _ _ (.cond _ _ _) _ _ _ _; (refine A_if rfl (fun h => ?_) (fun h => ?_) <;> try (exfalso; omega))))
        all_goals first
          | (exfalso; omega)
          | (exfalso; exact hyy (by assumption))
          | (refine Shift.to ⟨_, ?_, i + 1, rfl, by omega, hall.trans ⟨fun h => h.elim (fun h => absurd h hyy) id, .inr⟩, rfl⟩ ⟨rfl, rfl, rfl, ⟨rfl, rfl, rfl, rfl, trivial⟩, Own.sub_nil _⟩
             omega)
    · rw [List.drop_eq_nil_of_le (by omega)] at hall
      repeat' (first | refine O_nil ?_ | refine A_seq ?_ | refine A_region ?_ | refine A_ret ?_ | (show opsA _ _ _ _ _ _ _; refine O_ev WideF.wide rfl (Ev_pure rfl) rfl rfl ?_) | (show wpA _ _ _ (.exit _) _ _ _ _; refine A_exit rfl ?_) | (show wpA _ _ _ (.cond _ _ _) _ _ _ _; (refine A_if rfl (fun h => ?_) (fun h => ?_) <;> try (exfalso; omega))))
      all_goals first
        | (exfalso; omega)
        | exact End_e (Ret1 rfl rfl) ⟨⟨_, rfl, ⟨fun h => absurd h (by decide), fun h => by have := hall.1 h; cases this⟩⟩, rfl, rfl⟩
set_option maxRecDepth 100000 in
theorem ContainsS_fn {H : Hp} {a : Option Addr} {n cq : Nat} {l : List (List UInt8)} {x : List UInt8} (hx : HRow H a n cq 1 (l.map srow)) (hm : n < 68719476736) : FnP Try.prog 61 [.slice a n cq, sv x] H (.bool (decide (x ∈ l))) := by
  refine Fn_of _ _ Try.func61 rfl Try.ntmps61 rfl fun c => ?_
  repeat' (first | (refine O_ef rfl (Ef_call (I := []) WideF.wide (IndexS_fn hx hm) ⟨rfl, rfl, trivial⟩ rfl ?_); rintro v H' I' hk ⟨⟨r, rfl, hr⟩, rfl, rfl⟩) | refine O_nil ?_ | refine A_seq ?_ | refine A_region ?_ | refine A_ret ?_ | (show opsA _ _ _ _ _ _ _; refine O_ev WideF.wide rfl (Ev_pure rfl) rfl rfl ?_))
  refine End_p (Ret1 rfl rfl) ?_
  congr 1
  rw [decide_eq_decide]
  exact hr
set_option maxRecDepth 100000 in
theorem test1_fn {H : Hp} {b1 : Nat} {cs : List Value} {f : Filt} {r : Rev} (hf : FiltH H cs f) (hb : HCells H b1 0 cs) : FnP Try.prog 60 [.agg (rrow r).toArray, ptr b1] H (.bool (decide (selA f r))) := by
  obtain ⟨aa, an, ac, ia, iN, ic, rfl, ha, hi, h3, h4⟩ := hf.ex
  have e1 : f.authors.length = an := by have := ha.len; simpa using this
  have hco := ContainsS_fn (x := r.author) ha h3
  unfold rrow
  by_cases h0 : an = 0
  · have hs : selA f r := .inl (List.length_eq_zero_iff.1 (by omega))
    rw [decide_eq_true hs]
    refine Fn_of _ _ Try.func60 rfl Try.ntmps60 rfl fun c => ?_
    repeat' (first | (refine O_ev WideF.wide rfl (Ev_loadH1 rfl (hb 0 _ rfl)) rfl rfl ?_) | refine O_nil ?_ | refine A_seq ?_ | refine A_region ?_ | refine A_ret ?_ | (show opsA _ _ _ _ _ _ _; first | (refine O_split rfl rfl (fun h => ?_) (fun h => ?_) <;> try (exfalso; omega)) | refine O_ev WideF.wide rfl (Ev_pure rfl) rfl rfl ?_ | (show opsA _ _ _ _ (⟨_, .fieldAddr _ _ _, _, _, _, _⟩ :: _) _ _; refine O_ev WideF.wide rfl (Ev_fieldAddr rfl rfl rfl) rfl rfl ?_) | (show opsA _ _ _ _ (⟨_, .call _, _, _, _, _⟩ :: _) _ _; refine O_ev WideF.wide rfl (Ev_llen rfl) rfl rfl ?_) | (show opsA _ _ _ _ (⟨_, .box _ _, _, _, _, _⟩ :: _) _ _; (refine O_ef rfl (Ef_boxa WideF.wide rfl rfl ?_); intro b)) | refine O_skip WideF.wide rfl rfl rfl ?_))
    all_goals first
      | (exfalso; omega)
      | exact End_p (Ret1 rfl rfl) rfl
  · have hs : decide (r.author ∈ f.authors) = decide (selA f r) := by
      rw [decide_eq_decide]
      exact ⟨.inr, fun h => h.elim (fun h => absurd (by rw [h] at e1; simpa using e1.symm) h0) id⟩
    rw [hs] at hco
    refine Fn_of _ _ Try.func60 rfl Try.ntmps60 rfl fun c => ?_
    repeat' (first | (refine O_ev WideF.wide rfl (Ev_loadH1 rfl (hb 0 _ rfl)) rfl rfl ?_) | (refine O_ef rfl (Ef_callp WideF.wide hco ⟨rfl, rfl, trivial⟩ rfl ?_)) | refine O_nil ?_ | refine A_seq ?_ | refine A_region ?_ | refine A_ret ?_ | (show opsA _ _ _ _ _ _ _; first | (refine O_split rfl rfl (fun h => ?_) (fun h => ?_) <;> try (exfalso; omega)) | refine O_ev WideF.wide rfl (Ev_pure rfl) rfl rfl ?_ | (show opsA _ _ _ _ (⟨_, .load _ _, _, _, _, _⟩ :: _) _ _; refine O_ev WideF.wide rfl (Ev_loadB1 (i := 0) rfl rfl rfl) rfl rfl ?_) | (show opsA _ _ _ _ (⟨_, .fieldAddr _ _ _, _, _, _, _⟩ :: _) _ _; refine O_ev WideF.wide rfl (Ev_fieldAddr rfl rfl rfl) rfl rfl ?_) | (show opsA _ _ _ _ (⟨_, .call _, _, _, _, _⟩ :: _) _ _; refine O_ev WideF.wide rfl (Ev_llen rfl) rfl rfl ?_) | (show opsA _ _ _ _ (⟨_, .box _ _, _, _, _, _⟩ :: _) _ _; (refine O_ef rfl (Ef_boxa WideF.wide rfl rfl ?_); intro b))))
    all_goals first
      | (exfalso; omega)
      | exact End_p (Ret1 rfl rfl) rfl
set_option maxRecDepth 100000 in
theorem test3_fn {H : Hp} {b1 : Nat} {cs : List Value} {f : Filt} {r : Rev} (hf : FiltH H cs f) (hb : HCells H b1 0 cs) : FnP Try.prog 63 [.agg (rrow r).toArray, ptr b1] H (.bool (decide (selI f r))) := by
  obtain ⟨aa, an, ac, ia, iN, ic, rfl, ha, hi, h3, h4⟩ := hf.ex
  have e1 : f.ids.length = iN := by have := hi.len; simpa using this
  have hco := ContainsI_fn (x := r.id) hi h4
  unfold rrow
  by_cases h0 : iN = 0
  · have hs : selI f r := .inl (List.length_eq_zero_iff.1 (by omega))
    rw [decide_eq_true hs]
    refine Fn_of _ _ Try.func63 rfl Try.ntmps63 rfl fun c => ?_
    repeat' (first | (refine O_ev WideF.wide rfl (Ev_loadH1 rfl (hb 3 _ rfl)) rfl rfl ?_) | refine O_nil ?_ | refine A_seq ?_ | refine A_region ?_ | refine A_ret ?_ | (show opsA _ _ _ _ _ _ _; first | (refine O_split rfl rfl (fun h => ?_) (fun h => ?_) <;> try (exfalso; omega)) | refine O_ev WideF.wide rfl (Ev_pure rfl) rfl rfl ?_ | (show opsA _ _ _ _ (⟨_, .fieldAddr _ _ _, _, _, _, _⟩ :: _) _ _; refine O_ev WideF.wide rfl (Ev_fieldAddr rfl rfl rfl) rfl rfl ?_) | (show opsA _ _ _ _ (⟨_, .call _, _, _, _, _⟩ :: _) _ _; refine O_ev WideF.wide rfl (Ev_llen rfl) rfl rfl ?_) | (show opsA _ _ _ _ (⟨_, .box _ _, _, _, _, _⟩ :: _) _ _; (refine O_ef rfl (Ef_boxa WideF.wide rfl rfl ?_); intro b)) | refine O_skip WideF.wide rfl rfl rfl ?_))
    all_goals first
      | (exfalso; omega)
      | exact End_p (Ret1 rfl rfl) rfl
  · have hs : decide (r.id ∈ f.ids) = decide (selI f r) := by
      rw [decide_eq_decide]
      exact ⟨.inr, fun h => h.elim (fun h => absurd (by rw [h] at e1; simpa using e1.symm) h0) id⟩
    rw [hs] at hco
    refine Fn_of _ _ Try.func63 rfl Try.ntmps63 rfl fun c => ?_
    repeat' (first | (refine O_ev WideF.wide rfl (Ev_loadH1 rfl (hb 3 _ rfl)) rfl rfl ?_) | (refine O_ef rfl (Ef_callp WideF.wide hco ⟨rfl, rfl, trivial⟩ rfl ?_)) | refine O_nil ?_ | refine A_seq ?_ | refine A_region ?_ | refine A_ret ?_ | (show opsA _ _ _ _ _ _ _; first | (refine O_split rfl rfl (fun h => ?_) (fun h => ?_) <;> try (exfalso; omega)) | refine O_ev WideF.wide rfl (Ev_pure rfl) rfl rfl ?_ | (show opsA _ _ _ _ (⟨_, .load _ _, _, _, _, _⟩ :: _) _ _; refine O_ev WideF.wide rfl (Ev_loadB1 (i := 0) rfl rfl rfl) rfl rfl ?_) | (show opsA _ _ _ _ (⟨_, .fieldAddr _ _ _, _, _, _, _⟩ :: _) _ _; refine O_ev WideF.wide rfl (Ev_fieldAddr rfl rfl rfl) rfl rfl ?_) | (show opsA _ _ _ _ (⟨_, .call _, _, _, _, _⟩ :: _) _ _; refine O_ev WideF.wide rfl (Ev_llen rfl) rfl rfl ?_) | (show opsA _ _ _ _ (⟨_, .box _ _, _, _, _, _⟩ :: _) _ _; (refine O_ef rfl (Ef_boxa WideF.wide rfl rfl ?_); intro b))))
    all_goals first
      | (exfalso; omega)
      | exact End_p (Ret1 rfl rfl) rfl
set_option maxRecDepth 100000 in
theorem test2_fn {H : Hp} {b1 : Nat} {cs : List Value} {f : Filt} {r : Rev} (hf : FiltH H cs f) (hb : HCells H b1 0 cs) : FnP Try.prog 62 [.agg (rrow r).toArray, ptr b1] H (.bool (decide (selT f r))) := by
  obtain ⟨aa, an, ac, ia, iN, ic, rfl, ha, hi, h3, h4⟩ := hf.ex
  unfold rrow
  by_cases h1 : f.frm ≤ r.time
  · by_cases h2 : f.til = 0
    · have hs : selT f r := ⟨h1, .inl h2⟩
      rw [decide_eq_true hs]
      refine Fn_of _ _ Try.func62 rfl Try.ntmps62 rfl fun c => ?_
      repeat' (first | (refine O_ev WideF.wide rfl (Ev_loadH1 rfl (hb 1 _ rfl)) rfl rfl ?_) | (refine O_ev WideF.wide rfl (Ev_loadH1 rfl (hb 2 _ rfl)) rfl rfl ?_) | refine O_nil ?_ | refine A_seq ?_ | refine A_region ?_ | refine A_ret ?_ | (show opsA _ _ _ _ _ _ _; first | (refine O_split rfl rfl (fun h => ?_) (fun h => ?_) <;> try (exfalso; omega)) | refine O_ev WideF.wide rfl (Ev_pure rfl) rfl rfl ?_ | (show opsA _ _ _ _ (⟨_, .load _ _, _, _, _, _⟩ :: _) _ _; refine O_ev WideF.wide rfl (Ev_loadB1 (i := 0) rfl rfl rfl) rfl rfl ?_) | (show opsA _ _ _ _ (⟨_, .fieldAddr _ _ _, _, _, _, _⟩ :: _) _ _; refine O_ev WideF.wide rfl (Ev_fieldAddr rfl rfl rfl) rfl rfl ?_) | (show opsA _ _ _ _ (⟨_, .box _ _, _, _, _, _⟩ :: _) _ _; (refine O_ef rfl (Ef_boxa WideF.wide rfl rfl ?_); intro b)) | refine O_skip WideF.wide rfl rfl rfl ?_))
      all_goals first
        | (exfalso; omega)
        | exact End_p (Ret1 rfl rfl) rfl
    · have hs : decide (r.time ≤ f.til) = decide (selT f r) := by
        rw [decide_eq_decide]
        exact ⟨fun h => ⟨h1, .inr h⟩, fun h => h.2.elim (fun h => absurd h h2) id⟩
      rw [← hs]
      refine Fn_of _ _ Try.func62 rfl Try.ntmps62 rfl fun c => ?_
      repeat' (first | (refine O_ev WideF.wide rfl (Ev_loadH1 rfl (hb 1 _ rfl)) rfl rfl ?_) | (refine O_ev WideF.wide rfl (Ev_loadH1 rfl (hb 2 _ rfl)) rfl rfl ?_) | refine O_nil ?_ | refine A_seq ?_ | refine A_region ?_ | refine A_ret ?_ | (show opsA _ _ _ _ _ _ _; first | (refine O_split rfl rfl (fun h => ?_) (fun h => ?_) <;> try (exfalso; omega)) | refine O_ev WideF.wide rfl (Ev_pure rfl) rfl rfl ?_ | (show opsA _ _ _ _ (⟨_, .load _ _, _, _, _, _⟩ :: _) _ _; refine O_ev WideF.wide rfl (Ev_loadB1 (i := 0) rfl rfl rfl) rfl rfl ?_) | (show opsA _ _ _ _ (⟨_, .fieldAddr _ _ _, _, _, _, _⟩ :: _) _ _; refine O_ev WideF.wide rfl (Ev_fieldAddr rfl rfl rfl) rfl rfl ?_) | (show opsA _ _ _ _ (⟨_, .box _ _, _, _, _, _⟩ :: _) _ _; (refine O_ef rfl (Ef_boxa WideF.wide rfl rfl ?_); intro b))))
      all_goals first
        | (exfalso; omega)
        | exact End_p (Ret1 rfl rfl) rfl
  · have hs : ¬ selT f r := fun h => h1 h.1
    rw [decide_eq_false hs]
    refine Fn_of _ _ Try.func62 rfl Try.ntmps62 rfl fun c => ?_
    repeat' (first | (refine O_ev WideF.wide rfl (Ev_loadH1 rfl (hb 1 _ rfl)) rfl rfl ?_) | refine O_nil ?_ | refine A_seq ?_ | refine A_region ?_ | refine A_ret ?_ | (show opsA _ _ _ _ _ _ _; first | (refine O_split rfl rfl (fun h => ?_) (fun h => ?_) <;> try (exfalso; omega)) | refine O_ev WideF.wide rfl (Ev_pure rfl) rfl rfl ?_ | (show opsA _ _ _ _ (⟨_, .load _ _, _, _, _, _⟩ :: _) _ _; refine O_ev WideF.wide rfl (Ev_loadB1 (i := 0) rfl rfl rfl) rfl rfl ?_) | (show opsA _ _ _ _ (⟨_, .fieldAddr _ _ _, _, _, _, _⟩ :: _) _ _; refine O_ev WideF.wide rfl (Ev_fieldAddr rfl rfl rfl) rfl rfl ?_) | (show opsA _ _ _ _ (⟨_, .box _ _, _, _, _, _⟩ :: _) _ _; (refine O_ef rfl (Ef_boxa WideF.wide rfl rfl ?_); intro b)) | refine O_skip WideF.wide rfl rfl rfl ?_))
    all_goals first
      | (exfalso; omega)
      | exact End_p (Ret1 rfl rfl) rfl
/-! ### all of them -/
set_option maxRecDepth 100000 in
theorem bb_fn {H : Hp} {b1 b3 : Nat} {g : FuncId} [FunC Try.prog g] {r : Rev} {β : Bool} (h : FnP Try.prog g [.agg (rrow r).toArray, ptr b1] H (.bool β)) (hb : HCells H b3 0 (rrow r)) : FnP Try.prog 77 [cval g b1, ptr b3] H (.bool (!β)) := by
  unfold rrow at h hb
  refine Fn_of _ _ Try.func77 rfl Try.ntmps77 rfl fun c => ?_
  repeat' (first | (refine O_ev WideF.wide rfl (Ev_loadH rfl hb rfl) rfl rfl ?_) | (refine O_ef rfl (Ef_callcp (args := [_]) (caps := [_]) WideF.wide h rfl ⟨rfl, trivial⟩ rfl ?_)) | refine O_nil ?_ | refine A_seq ?_ | refine A_region ?_ | refine A_ret ?_ | (show opsA _ _ _ _ _ _ _; first | refine O_ev WideF.wide rfl (Ev_pure rfl) rfl rfl ?_ | (show opsA _ _ _ _ (⟨_, .unOp _ _ _, _, _, _, _⟩ :: _) _ _; refine O_ev WideF.wide rfl (Ev_notb rfl) rfl rfl ?_)))
  exact End_p (Ret1 rfl rfl) rfl
set_option maxRecDepth 100000 in
theorem IndexF_fn {H : Hp} {a : Option Addr} {n cq b3 : Nat} {fs : List Value} {βs : List Bool} (hx : HRow H a n cq 1 (fs.map fun v => [v])) (hn : βs.length = n) (hm : n < 68719476736)
    (hall : ∀ (i : Nat) (v : Value), fs[i]? = some v → ∃ β, βs[i]? = some β ∧ FnP Try.prog 77 [v, ptr b3] H (.bool (!β))) :
    Fn Try.prog 96 [.slice a n cq, cval 77 b3] H [] fun v H' I' => (∃ r : Int, v = .int .i64 r ∧ (0 ≤ r ↔ βs.all id = false)) ∧ H' = H ∧ I' = [] := by
  refine Fn_of _ _ Try.func96 rfl Try.ntmps96 rfl fun c => ?_
  repeat' (first | refine O_nil ?_ | refine A_seq ?_ | refine A_region ?_ | refine A_block ?_ | (show opsA _ _ _ _ _ _ _; first | refine O_ev WideF.wide rfl (Ev_pure rfl) rfl rfl ?_ | (show opsA _ _ _ _ (⟨_, .call _, _, _, _, _⟩ :: _) _ _; refine O_ev WideF.wide rfl (Ev_llen rfl) rfl rfl ?_)))
  refine A_loopu (fun m s => ∃ i : Nat, m = n - i ∧ i ≤ n ∧ (βs.all id = (βs.drop i).all id) ∧ s = ⟨19, [(0, .slice a n cq), (1, cval 77 b3), (7, .int .i64 n), (8, .int .i64 i)], H, [], [], []⟩) ?_ ?_
  · exact Shift.to ⟨_, 0, rfl, by omega, by rw [List.drop_zero], rfl⟩ ⟨rfl, rfl, rfl, ⟨rfl, rfl, rfl, rfl, trivial⟩, Own.sub_nil _⟩
  · rintro m s ⟨i, rfl, hi, hd, rfl⟩
    by_cases hlt : i < n
    · obtain ⟨b, o, y, rfl, hyi, hc⟩ := hx.atm (f := fun v => [v]) i hlt
      obtain ⟨β, hβ, hcall⟩ := hall i y hyi
      rw [drop_get hβ, List.all_cons] at hd
      have hc0 : H b (o + i * 1 + 0) = some y := hc 0 _ rfl
      cases β with
      | true =>
        simp only [id, Bool.true_and] at hd
        repeat' (first | (refine O_ev WideF.wide rfl (Ev_loadH1 rfl hc0) rfl rfl ?_) | (refine O_ef rfl (Ef_callcp (args := [_]) (caps := [_]) WideF.wide hcall rfl ⟨rfl, trivial⟩ rfl ?_)) | refine O_nil ?_ | refine A_seq ?_ | refine A_region ?_ | refine A_skip ?_ | refine A_block ?_ | (show opsA _ _ _ _ _ _ _; first | refine O_ev WideF.wide rfl (Ev_pure rfl) rfl rfl ?_ | (show opsA _ _ _ _ (⟨_, .indexAddr _ _ _, _, _, _, _⟩ :: _) _ _; refine O_ev WideF.wide rfl (Ev_indexAddr rfl rfl (by omega) (by omega)) rfl rfl ?_) | (show opsA _ _ _ _ (⟨_, .binOp _ _ _ _ _, _, _, _, _⟩ :: _) _ _; refine O_ev WideF.wide rfl (Ev_add rfl rfl (wi64 (by omega))) rfl rfl ?_)) | (show wpA _ _ _ (.cond _ _ _) _ _ _ _; first | (refine A_if rfl (fun h => ?_) (fun h => ?_) <;> try (exfalso; omega)) | refine A_iffalse rfl ?_))
        all_goals first
          | (exfalso; omega)
          | (refine Shift.to ⟨_, ?_, i + 1, rfl, by omega, hd, rfl⟩ ⟨rfl, rfl, rfl, ⟨rfl, rfl, rfl, rfl, trivial⟩, Own.sub_nil _⟩
             omega)
      | false =>
        simp only [id, Bool.false_and] at hd
        repeat' (first | (refine O_ev WideF.wide rfl (Ev_loadH1 rfl hc0) rfl rfl ?_) | (refine O_ef rfl (Ef_callcp (args := [_]) (caps := [_]) WideF.wide hcall rfl ⟨rfl, trivial⟩ rfl ?_)) | refine O_nil ?_ | refine A_seq ?_ | refine A_region ?_ | refine A_skip ?_ | refine A_ret ?_ | refine A_block ?_ | (show opsA _ _ _ _ _ _ _; first | refine O_ev WideF.wide rfl (Ev_pure rfl) rfl rfl ?_ | (show opsA _ _ _ _ (⟨_, .indexAddr _ _ _, _, _, _, _⟩ :: _) _ _; refine O_ev WideF.wide rfl (Ev_indexAddr rfl rfl (by omega) (by omega)) rfl rfl ?_)) | (show wpA _ _ _ (.cond _ _ _) _ _ _ _; first | (refine A_if rfl (fun h => ?_) (fun h => ?_) <;> try (exfalso; omega)) | refine A_iftrue rfl ?_))
        all_goals first
          | (exfalso; omega)
          | exact End_e (Ret1 rfl rfl) ⟨⟨_, rfl, ⟨fun _ => hd, fun _ => by omega⟩⟩, rfl, rfl⟩
    · rw [List.drop_eq_nil_of_le (by omega)] at hd
      repeat' (first | refine O_nil ?_ | refine A_seq ?_ | refine A_region ?_ | refine A_ret ?_ | (show opsA _ _ _ _ _ _ _; refine O_ev WideF.wide rfl (Ev_pure rfl) rfl rfl ?_) | (show wpA _ _ _ (.exit _) _ _ _ _; refine A_exit rfl ?_) | (show wpA _ _ _ (.cond _ _ _) _ _ _ _; (refine A_if rfl (fun h => ?_) (fun h => ?_) <;> try (exfalso; omega))))
      all_goals first
        | (exfalso; omega)
        | exact End_e (Ret1 rfl rfl) ⟨⟨_, rfl, ⟨fun h => absurd h (by decide), fun h => by rw [hd] at h; cases h⟩⟩, rfl, rfl⟩
set_option maxRecDepth 100000 in
theorem ContainsF_fn {H : Hp} {a : Option Addr} {n cq b3 : Nat} {fs : List Value} {βs : List Bool} (hx : HRow H a n cq 1 (fs.map fun v => [v])) (hn : βs.length = n) (hm : n < 68719476736)
    (hall : ∀ (i : Nat) (v : Value), fs[i]? = some v → ∃ β, βs[i]? = some β ∧ FnP Try.prog 77 [v, ptr b3] H (.bool (!β))) :
    FnP Try.prog 76 [.slice a n cq, cval 77 b3] H (.bool (!βs.all id)) := by
  refine Fn_of _ _ Try.func76 rfl Try.ntmps76 rfl fun c => ?_
  repeat' (first | (refine O_ef rfl (Ef_call (I := []) WideF.wide (IndexF_fn hx hn hm hall) ⟨rfl, rfl, trivial⟩ rfl ?_); rintro v H' I' hk ⟨⟨r, rfl, hr⟩, rfl, rfl⟩) | refine O_nil ?_ | refine A_seq ?_ | refine A_region ?_ | refine A_ret ?_ | (show opsA _ _ _ _ _ _ _; refine O_ev WideF.wide rfl (Ev_pure rfl) rfl rfl ?_))
  refine End_p (Ret1 rfl rfl) ?_
  congr 1
  cases hb : βs.all id with
  | true => exact decide_eq_false fun h => by rw [hr, hb] at h; cases h
  | false => exact decide_eq_true (hr.2 hb)
/-- the test of a filter, as a function value -/
def TestIs (H : Hp) (b2 : Nat) (f : Filt) : Prop := ∃ (b1 : Nat) (cs : List Value) (fa : Option Addr) (fc : Nat), FiltH H cs f ∧ HCells H b1 0 cs ∧ H b2 0 = some (.slice fa 3 fc) ∧
  HRow H fa 3 fc 1 ([cval 60 b1, cval 62 b1, cval 63 b1].map fun v => [v])
theorem TestIs.mono {H H' : Hp} (hl : HLe H H') {b2 : Nat} {f : Filt} : TestIs H b2 f → TestIs H' b2 f := fun ⟨b1, cs, fa, fc, h1, h2, h3, h4⟩ => ⟨b1, cs, fa, fc, h1.mono hl, h2.mono hl, hl _ _ _ h3, h4.mono hl⟩
set_option maxRecDepth 100000 in
theorem both1_fn {H : Hp} {b2 : Nat} {f : Filt} {r : Rev} (ht : TestIs H b2 f) : Fn Try.prog 75 [.agg (rrow r).toArray, ptr b2] H [] fun v _ I => v = .bool (sel f r) ∧ I = [] := by
  obtain ⟨b1, cs, fa, fc, hf, hb, h2, hr⟩ := ht
  have hcf := fun Hx b3 (hx : HLe H Hx) (h3 : HCells Hx b3 0 (rrow r)) => ContainsF_fn (H := Hx) (b3 := b3) (βs := [decide (selA f r), decide (selT f r), decide (selI f r)]) (hr.mono hx) rfl (by decide) (fun i v hi => by
    match i, hi with
    | 0, hi => cases hi; exact ⟨_, rfl, bb_fn (test1_fn (hf.mono hx) (hb.mono hx)) h3⟩
    | 1, hi => cases hi; exact ⟨_, rfl, bb_fn (test2_fn (hf.mono hx) (hb.mono hx)) h3⟩
    | 2, hi => cases hi; exact ⟨_, rfl, bb_fn (test3_fn (hf.mono hx) (hb.mono hx)) h3⟩
    | k + 3, hi => simp at hi)
  unfold rrow at hcf
  have honer : ∀ u ∈ rrow r, u.oneCell' = true := fun u hu => rrow_one [r] (rrow r) (by simp) u hu
  unfold rrow at honer ⊢
  refine Fn_of _ _ Try.func75 rfl Try.ntmps75 rfl fun c => ?_
  repeat' (first | (refine O_ev WideF.wide rfl (Ev_loadH1 rfl h2) rfl rfl ?_) | (refine O_freezeBox honer ?_; intro H1 hle1 hc1; refine O_ev WideF.wide rfl (Ev_makeFunc (xs := []) (vs := []) (ys := [.tmp 2]) (us := [.pointer (some ⟨_, 0, none⟩)]) rfl rfl) rfl rfl ?_) | (refine O_ef rfl (Ef_callp WideF.wide (hcf _ _ hle1 hc1) ⟨rfl, rfl, trivial⟩ rfl ?_)) | refine O_nil ?_ | refine A_seq ?_ | refine A_region ?_ | refine A_ret ?_ | (show opsA _ _ _ _ _ _ _; first | refine O_ev WideF.wide rfl (Ev_pure rfl) rfl rfl ?_ | (show opsA _ _ _ _ (⟨_, .unOp _ _ _, _, _, _, _⟩ :: _) _ _; refine O_ev WideF.wide rfl (Ev_notb rfl) rfl rfl ?_) | (show opsA _ _ _ _ (⟨_, .box _ _, _, _, _, _⟩ :: _) _ _; (refine O_ef rfl (Ef_boxa WideF.wide rfl rfl ?_); intro b))))
  refine End_e (Ret1 rfl rfl) ⟨?_, rfl⟩
  simp [sel, Bool.and_assoc]
set_option maxRecDepth 100000 in
theorem both_fn {H : Hp} {fa : Option Addr} {n fc : Nat} : Fn Try.prog 59 [.slice fa n fc] H [] fun v H' I' => (∃ b2, v = cval 75 b2 ∧ H' b2 0 = some (.slice fa n fc)) ∧ I' = [] := by
  refine Fn_of _ _ Try.func59 rfl Try.ntmps59 rfl fun c => ?_
  repeat' (first | (refine O_freezeBox (by intro u hu; simp at hu; subst hu; rfl) ?_; intro H1 hle1 hc1; refine O_ev WideF.wide rfl (Ev_makeFunc (xs := []) (vs := []) (ys := [.tmp 1]) (us := [.pointer (some ⟨_, 0, none⟩)]) rfl rfl) rfl rfl ?_) | refine O_nil ?_ | refine A_seq ?_ | refine A_region ?_ | refine A_ret ?_ | (show opsA _ _ _ _ _ _ _; first | refine O_ev WideF.wide rfl (Ev_pure rfl) rfl rfl ?_ | (show opsA _ _ _ _ (⟨_, .box _ _, _, _, _, _⟩ :: _) _ _; (refine O_ef rfl (Ef_box1 WideF.wide rfl rfl rfl ?_); intro b))))
  exact End_e (Ret1 rfl rfl) ⟨⟨_, rfl, hc1 0 _ rfl⟩, rfl⟩
set_option maxRecDepth 100000 in
theorem test_fn {H : Hp} {cs : List Value} {f : Filt} (hf : FiltH H cs f) : Fn Try.prog 43 [.agg cs.toArray] H [] fun v H' I' => (∃ b2, v = cval 75 b2 ∧ TestIs H' b2 f) ∧ I' = [] := by
  have hones := hf.ones
  obtain ⟨aa, an, ac, ia, iN, ic, rfl, _⟩ := hf.ex
  refine Fn_of _ _ Try.func43 rfl Try.ntmps43 rfl fun c => ?_
  repeat' (first | (refine O_freezeBox hones ?_; intro H1 hle1 hc1; refine O_ev WideF.wide rfl (Ev_makeFunc (xs := []) (vs := []) (ys := [.tmp 1]) (us := [.pointer (some ⟨_, 0, none⟩)]) rfl rfl) rfl rfl ?_) | (refine O_ev WideF.wide rfl (Ev_makeFunc (xs := []) (vs := []) (ys := [.tmp 1]) (us := [.pointer (some ⟨_, 0, none⟩)]) rfl rfl) rfl rfl ?_) | (refine O_ef rfl (Ef_buildn WideF.wide (k := 1) (xs := [_, _, _]) (vs := [_, _, _]) rfl ⟨rfl, rfl, rfl, trivial⟩ rfl rfl rfl rfl rfl rfl ?_); intro bb) | (refine O_freeze (ones_of rfl) ?_; intro H2 hle2 hr2; refine O_ef rfl (Ef_call (I := []) WideF.wide both_fn ⟨rfl, trivial⟩ rfl ?_); rintro v H3 I3 hle3 ⟨⟨b2, rfl, hb2⟩, rfl⟩) | refine O_nil ?_ | refine A_seq ?_ | refine A_region ?_ | refine A_ret ?_ | (show opsA _ _ _ _ _ _ _; first | refine O_ev WideF.wide rfl (Ev_pure rfl) rfl rfl ?_ | (show opsA _ _ _ _ (⟨_, .box _ _, _, _, _, _⟩ :: _) _ _; (refine O_ef rfl (Ef_boxa WideF.wide rfl rfl ?_); intro b))))
  exact End_e (Ret1 rfl rfl) ⟨⟨_, rfl, _, _, _, _, hf.mono ((hle1.trans hle2).trans hle3), (hc1.mono hle2).mono hle3, hb2, hr2.mono hle3⟩, rfl⟩
end Go.Proofs.Ytlcoebomgaodgaa
