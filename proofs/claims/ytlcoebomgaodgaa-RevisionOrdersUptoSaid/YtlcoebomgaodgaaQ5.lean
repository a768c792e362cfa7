/-
  Revisions: Merge; the law's insert.
-/
import Derived.Test.YtlcoebomgaodgaaQ4
namespace Go.Proofs.Ytlcoebomgaodgaa
open Go
set_option linter.unusedVariables false
set_option linter.unusedSimpArgs false
/-- two tables contradict each other -/
def Conf (a b : List Rev) : Prop := ∃ x ∈ a, ∃ y ∈ b, x.id = y.id ∧ x ≠ y
theorem Conf.symm {a b : List Rev} : Conf a b → Conf b a := fun ⟨x, hx, y, hy, h1, h2⟩ => ⟨y, hy, x, hx, h1.symm, h2.symm⟩
/-- w holds a and the first j of b -/
structure Mrg (a b : List Rev) (j : Nat) (w : List Rev) : Prop where
  inc : Inc (w.map Rev.id)
  mem : ∀ r, r ∈ w ↔ r ∈ a ∨ r ∈ b.take j
  no : ¬ Conf a (b.take j)
  len : w.length ≤ a.length + j
theorem Mrg.start {a b : List Rev} (h : Inc (a.map Rev.id)) : Mrg a b 0 a := ⟨h, by simp, by rintro ⟨x, _, y, hy, _⟩; simp at hy, by omega⟩
theorem Mrg.same {a b w : List Rev} {j : Nat} {y : Rev} (h : Mrg a b j w) (hy : b[j]? = some y) (hw : y ∈ w) : Mrg a b (j + 1) w := by
  refine ⟨h.inc, fun r => ?_, ?_, by have := h.len; omega⟩
  · rw [take_get hy, h.mem, List.mem_append, List.mem_singleton]
    constructor
    · rintro (h1 | h1)
      · exact .inl h1
      · exact .inr (.inl h1)
    · rintro (h1 | h1 | rfl)
      · exact .inl h1
      · exact .inr h1
      · exact (h.mem _).1 hw
  · rintro ⟨x, hx, z, hz, h1, h2⟩
    rw [take_get hy, List.mem_append, List.mem_singleton] at hz
    rcases hz with hz | rfl
    · exact h.no ⟨x, hx, z, hz, h1, h2⟩
    · exact h2 (inc_uniq h.inc ((h.mem x).2 (.inl hx)) hw h1)
theorem Mrg.put {a b w : List Rev} {j : Nat} {y : Rev} (h : Mrg a b j w) (hy : b[j]? = some y) (hw : y.id ∉ w.map Rev.id) : Mrg a b (j + 1) (putL w y) := by
  refine ⟨putL_inc h.inc hw, fun r => ?_, ?_, by rw [putL_len]; have := h.len; omega⟩
  · rw [putL_mem, take_get hy, h.mem, List.mem_append, List.mem_singleton, or_assoc]
  · rintro ⟨x, hx, z, hz, h1, h2⟩
    rw [take_get hy, List.mem_append, List.mem_singleton] at hz
    rcases hz with hz | rfl
    · exact h.no ⟨x, hx, z, hz, h1, h2⟩
    · exact hw (List.mem_map.2 ⟨x, (h.mem x).2 (.inl hx), h1⟩)
theorem Mrg.conf {a b w : List Rev} {j : Nat} {y z : Rev} (h : Mrg a b j w) (hb : Inc (b.map Rev.id)) (hy : b[j]? = some y) (hz : z ∈ w) (h1 : z.id = y.id) (h2 : z ≠ y) : Conf a b := by
  rcases (h.mem z).1 hz with hz | hz
  · exact ⟨z, hz, y, List.mem_of_getElem? hy, h1, h2⟩
  · obtain ⟨i, hi⟩ := List.mem_iff_getElem?.1 hz
    rw [List.getElem?_take] at hi
    split at hi
    · have hi' : (b.map Rev.id)[i]? = some z.id := by rw [List.getElem?_map, hi]; rfl
      have hj' : (b.map Rev.id)[j]? = some y.id := by rw [List.getElem?_map, hy]; rfl
      have := hb.lt hi' hj' (by omega)
      omega
    · cases hi
/-- what Merge hands back -/
def MergeR (a b out : List Rev) (e : Int) : Prop :=
  (chk a ≠ 0 ∧ e = chk a ∧ out = []) ∨ (chk a = 0 ∧ chk b ≠ 0 ∧ e = chk b ∧ out = []) ∨ (chk a = 0 ∧ chk b = 0 ∧ Conf a b ∧ e = 23 ∧ out = []) ∨
  (chk a = 0 ∧ chk b = 0 ∧ ∃ w, Mrg a b b.length w ∧ ((256 < w.length ∧ e = 9 ∧ out = []) ∨ (w.length ≤ 256 ∧ e = 0 ∧ out = w)))
def MergeIs (a b : List Rev) (v : Value) (H : Hp) (I : Own) : Prop := ∃ out e, MergeR a b out e ∧ RevsE out e v H I
attribute [local irreducible] wpA opsA drJ drQ drE Ef Ev Shift Fn
set_option maxRecDepth 100000 in
set_option maxHeartbeats 2000000 in
theorem Merge_fn {H : Hp} {a a' : Option Addr} {n cq n' cq' : Nat} {l l' : List Rev} (hx : HRow H a n cq 3 (l.map rrow)) (hx' : HRow H a' n' cq' 3 (l'.map rrow)) : Fn Try.prog 19 [.slice a n cq, .slice a' n' cq'] H [] (MergeIs l l') := by
  have e1 : l.length = n := by have := hx.len; simpa using this
  have e2 : l'.length = n' := by have := hx'.len; simpa using this
  refine Fn_of _ _ Try.func19 rfl Try.ntmps19 rfl fun c => ?_
  repeat' (first | (refine O_ef rfl (Ef_buildn WideF.wide (k := 1) (xs := [_, _]) (vs := [_, _]) rfl ⟨rfl, rfl, trivial⟩ rfl rfl rfl rfl rfl rfl ?_); intro bb) | refine O_nil ?_ | refine A_seq ?_ | refine A_region ?_ | refine A_block ?_ | (show opsA _ _ _ _ _ _ _; first | refine O_ev WideF.wide rfl (Ev_pure rfl) rfl rfl ?_ | (show opsA _ _ _ _ (⟨_, .call _, _, _, _, _⟩ :: _) _ _; refine O_ev WideF.wide rfl (Ev_llen rfl) rfl rfl ?_)))
  refine A_freeze (ones_of rfl) ?_
  intro H1 hle1 rr
  have hx := hx.mono hle1
  have hx' := hx'.mono hle1
  refine A_loopu (fun m st => ∃ (i : Nat) (pa : Option Addr), m = 2 - i ∧ i ≤ 2 ∧ (0 < i → chk l = 0) ∧ (1 < i → chk l' = 0) ∧ HRow H1 pa 2 2 1 [[.slice a n cq], [.slice a' n' cq']] ∧ st = ⟨63, [(0, .slice a n cq), (1, .slice a' n' cq'), (16, .slice pa 2 2), (17, .int .i64 2), (18, .int .i64 (i : Int))], H1, [], [], []⟩) ?_ ?_
  · exact Shift.to ⟨_, 0, _, rfl, by omega, fun h => by omega, fun h => by omega, rr, rfl⟩ ⟨rfl, rfl, rfl, ⟨rfl, rfl, rfl, rfl, rfl, trivial⟩, Own.sub_nil _⟩
  rintro m st ⟨i, pa, rfl, hi, c1, c2, rr, rfl⟩
  rcases (by omega : i = 0 ∨ i = 1 ∨ i = 2) with rfl | rfl | rfl
  · obtain ⟨b, o, cs, rfl, hcs, _, hc⟩ := rr.at 0 (by omega)
    cases hcs
    have hck := Check_fn hx
    by_cases h0 : chk l = 0
    · rw [h0] at hck
      repeat' (first | (refine O_ev WideF.wide rfl (Ev_loadH1 rfl (hc 0 _ rfl)) rfl rfl ?_) | (refine O_ef rfl (Ef_callp WideF.wide hck ⟨rfl, trivial⟩ rfl ?_)) | refine O_nil ?_ | refine A_seq ?_ | refine A_region ?_ | refine A_skip ?_ | refine A_block ?_ | (show opsA _ _ _ _ _ _ _; first | refine O_ev WideF.wide rfl (Ev_pure rfl) rfl rfl ?_ | (show opsA _ _ _ _ (⟨_, .indexAddr _ _ _, _, _, _, _⟩ :: _) _ _; refine O_ev WideF.wide rfl (Ev_indexAddr rfl rfl (by omega) (by omega)) rfl rfl ?_) | (show opsA _ _ _ _ (⟨_, .binOp _ _ _ _ _, _, _, _, _⟩ :: _) _ _; refine O_ev WideF.wide rfl (Ev_add rfl rfl (wi64 (by omega))) rfl rfl ?_)) | (show wpA _ _ _ (.cond _ _ _) _ _ _ _; (refine A_if rfl (fun h => ?_) (fun h => ?_) <;> try (exfalso; omega))))
      all_goals first
        | (exfalso; omega)
        | exact Shift.to ⟨1, by omega, 1, _, rfl, by omega, fun _ => h0, fun h => by omega, rr, rfl⟩ ⟨rfl, rfl, rfl, ⟨rfl, rfl, rfl, rfl, rfl, trivial⟩, Own.sub_nil _⟩
    · repeat' (first | (refine O_ev WideF.wide rfl (Ev_loadH1 rfl (hc 0 _ rfl)) rfl rfl ?_) | (refine O_ef rfl (Ef_callp WideF.wide hck ⟨rfl, trivial⟩ rfl ?_)) | refine O_nil ?_ | refine A_seq ?_ | refine A_region ?_ | refine A_skip ?_ | refine A_ret ?_ | refine A_block ?_ | (show opsA _ _ _ _ _ _ _; first | refine O_ev WideF.wide rfl (Ev_pure rfl) rfl rfl ?_ | (show opsA _ _ _ _ (⟨_, .indexAddr _ _ _, _, _, _, _⟩ :: _) _ _; refine O_ev WideF.wide rfl (Ev_indexAddr rfl rfl (by omega) (by omega)) rfl rfl ?_)) | (show wpA _ _ _ (.cond _ _ _) _ _ _ _; (refine A_if rfl (fun h => ?_) (fun h => ?_) <;> try (exfalso; omega))))
      all_goals first
        | (exfalso; omega)
        | (exfalso; exact h0 (by assumption))
        | exact End_e (Ret2 rfl rfl rfl) ⟨_, _, .inl ⟨h0, rfl, rfl⟩, RevsE.no _ _⟩
  · obtain ⟨b, o, cs, rfl, hcs, _, hc⟩ := rr.at 1 (by omega)
    cases hcs
    have hck := Check_fn hx'
    by_cases h0 : chk l' = 0
    · rw [h0] at hck
      repeat' (first | (refine O_ev WideF.wide rfl (Ev_loadH1 rfl (hc 0 _ rfl)) rfl rfl ?_) | (refine O_ef rfl (Ef_callp WideF.wide hck ⟨rfl, trivial⟩ rfl ?_)) | refine O_nil ?_ | refine A_seq ?_ | refine A_region ?_ | refine A_skip ?_ | refine A_block ?_ | (show opsA _ _ _ _ _ _ _; first | refine O_ev WideF.wide rfl (Ev_pure rfl) rfl rfl ?_ | (show opsA _ _ _ _ (⟨_, .indexAddr _ _ _, _, _, _, _⟩ :: _) _ _; refine O_ev WideF.wide rfl (Ev_indexAddr rfl rfl (by omega) (by omega)) rfl rfl ?_) | (show opsA _ _ _ _ (⟨_, .binOp _ _ _ _ _, _, _, _, _⟩ :: _) _ _; refine O_ev WideF.wide rfl (Ev_add rfl rfl (wi64 (by omega))) rfl rfl ?_)) | (show wpA _ _ _ (.cond _ _ _) _ _ _ _; (refine A_if rfl (fun h => ?_) (fun h => ?_) <;> try (exfalso; omega))))
      all_goals first
        | (exfalso; omega)
        | exact Shift.to ⟨0, by omega, 2, _, rfl, by omega, fun _ => c1 (by omega), fun _ => h0, rr, rfl⟩ ⟨rfl, rfl, rfl, ⟨rfl, rfl, rfl, rfl, rfl, trivial⟩, Own.sub_nil _⟩
    · repeat' (first | (refine O_ev WideF.wide rfl (Ev_loadH1 rfl (hc 0 _ rfl)) rfl rfl ?_) | (refine O_ef rfl (Ef_callp WideF.wide hck ⟨rfl, trivial⟩ rfl ?_)) | refine O_nil ?_ | refine A_seq ?_ | refine A_region ?_ | refine A_skip ?_ | refine A_ret ?_ | refine A_block ?_ | (show opsA _ _ _ _ _ _ _; first | refine O_ev WideF.wide rfl (Ev_pure rfl) rfl rfl ?_ | (show opsA _ _ _ _ (⟨_, .indexAddr _ _ _, _, _, _, _⟩ :: _) _ _; refine O_ev WideF.wide rfl (Ev_indexAddr rfl rfl (by omega) (by omega)) rfl rfl ?_)) | (show wpA _ _ _ (.cond _ _ _) _ _ _ _; (refine A_if rfl (fun h => ?_) (fun h => ?_) <;> try (exfalso; omega))))
      all_goals first
        | (exfalso; omega)
        | (exfalso; exact h0 (by assumption))
        | exact End_e (Ret2 rfl rfl rfl) ⟨_, _, .inr (.inl ⟨c1 (by omega), h0, rfl, rfl⟩), RevsE.no _ _⟩
  have ha := c1 (by omega)
  have hb := c2 (by omega)
  have za := chk_zero.1 ha
  have zb := chk_zero.1 hb
  have hcl := CloneRev_fn hx (by omega)
  repeat' (first | (refine O_ef rfl (Ef_call (I := []) WideF.wide hcl ⟨rfl, trivial⟩ rfl ?_); rintro v H' I' hk ⟨rfl, a0, c0, rfl, rfl⟩) | refine O_nil ?_ | refine A_seq ?_ | refine A_region ?_ | refine A_block ?_ | (show opsA _ _ _ _ _ _ _; first | refine O_ev WideF.wide rfl (Ev_pure rfl) rfl rfl ?_ | (show opsA _ _ _ _ (⟨_, .call _, _, _, _, _⟩ :: _) _ _; refine O_ev WideF.wide rfl (Ev_llen rfl) rfl rfl ?_)) | (show wpA _ _ _ (.exit _) _ _ _ _; refine A_exit rfl ?_) | (show wpA _ _ _ (.cond _ _ _) _ _ _ _; (refine A_if rfl (fun h => ?_) (fun h => ?_) <;> try (exfalso; omega))))
  all_goals try (exfalso; omega)
  refine A_loopu (fun m st => ∃ (j : Nat) (w : List Rev) (ao : Option Addr) (no co : Nat), m = n' - j ∧ j ≤ n' ∧ Mrg l l' j w ∧ w.length = no ∧ st = ⟨63, [(9, .slice ao no co), (30, .slice a' n' cq'), (31, .int .i64 (n' : Int)), (32, .int .i64 (j : Int))], H', [.row (.slice ao no co) 3 (w.map rrow)], [], []⟩) ?_ ?_
  · exact Shift.to ⟨_, 0, l, a0, n, c0, rfl, by omega, Mrg.start za.2.2, e1, rfl⟩ ⟨rfl, rfl, rfl, ⟨rfl, rfl, rfl, rfl, trivial⟩, Own.subi [0] (by decide) rfl rfl⟩
  rintro m st ⟨j, w, ao, no, co, rfl, hj, hm, hno, rfl⟩
  have hml := hm.len
  refine A_rowaddr (q := 0) rfl ?_
  intro r1 r2 r3 r4 r5
  by_cases hlt : j < n'
  · obtain ⟨b, o, y, rfl, hy, hc⟩ := hx'.atm j hlt
    have hpl := Fn.borrow (H := H') (a := ao) (n := no) (c := co) (k := 3) (rrow_one w) (fun H1 _ hr => (place_fn (x := y.id) hr hm.inc (by omega)).mono fun v H' I' ⟨h, _, h2⟩ => ⟨h, h2⟩)
    have hcy := hc
    unfold rrow at hcy
    by_cases hin : y.id ∈ w.map Rev.id
    · rw [decide_eq_true hin] at hpl
      have hat := fun i (hsp : Spot (w.map Rev.id) y.id i) => (show ∃ z, w[i]? = some z ∧ z.id = y.id ∧ i < no by
        have hg := (hsp.mem hm.inc).1 hin
        rw [List.getElem?_map] at hg
        obtain ⟨z, hz, hzi⟩ := Option.map_eq_some_iff.1 hg
        exact ⟨z, hz, hzi, by have := (List.getElem?_eq_some_iff.1 hz).1; omega⟩)
      obtain ⟨bb, rfl⟩ : ∃ bb, ao = some ⟨bb, 0, none⟩ := by
        cases ao with
        | none =>
          have := (r3 rfl).1
          rw [List.map_eq_nil_iff] at this
          rw [this] at hin; simp at hin
        | some ad => obtain ⟨bb, rfl⟩ := r5 _ rfl; exact ⟨bb, rfl⟩
      repeat' (first | (refine O_ev WideF.wide rfl (Ev_loadH rfl hcy rfl) rfl rfl ?_) | (refine O_ef rfl (Ef_f1 (Ef_call (I := [_]) WideF.wide hpl ⟨rfl, rfl, trivial⟩ rfl ?_)); rintro v H2 I2 hk2 ⟨⟨i, hsp, rfl⟩, rfl, rfl⟩; obtain ⟨z, hz, hzi, hil⟩ := hat i hsp; have hzr : (w.map rrow)[i]? = some (rrow z) := (by rw [List.getElem?_map, hz]; rfl); unfold rrow at hzr) | (refine A_drawL WideF.wide (.q 0 (.q 1 (.q 2 (.q 3 (.q 4 (.q 5 (.q 6 (.done [])))))))) [] (by decide +kernel) ?_) | (refine D_ev rfl (Ev_loadR (q := 0) rfl rfl hzr (by omega) rfl) rfl rfl ?_) | (refine D_ev rfl (Ev_neS rfl rfl Try.eqGuardType23 (eq_rev z y)) rfl rfl ?_) | refine O_nil ?_ | refine A_seq ?_ | refine A_region ?_ | refine A_skip ?_ | refine A_ret ?_ | refine A_block ?_ | (show drJ _ _ _ _ _ _ _ (.q _ _) _; refine D_q rfl ?_) | (show drJ _ _ _ _ _ _ _ (.done _) _; refine D_done ?_; simp only [List.cons_append, List.nil_append]) | (show drQ _ _ _ _ _ _; first | refine D_ev rfl (Ev_pure rfl) rfl rfl ?_ | (show drQ _ _ _ ⟨_, .load _ _, _, _, _, _⟩ _ _; refine D_ev rfl (Ev_loadB (i := 1) rfl rfl rfl) rfl rfl ?_) | (show drQ _ _ _ ⟨_, .indexAddr _ _ _, _, _, _, _⟩ _ _; refine D_ev rfl (Ev_indexAddr rfl rfl (by omega) (by omega)) rfl rfl ?_)) | (show opsA _ _ _ _ _ _ _; first | refine O_ev WideF.wide rfl (Ev_pure rfl) rfl rfl ?_ | (show opsA _ _ _ _ (⟨_, .load _ _, _, _, _, _⟩ :: _) _ _; refine O_ev WideF.wide rfl (Ev_loadB1 (i := 0) rfl rfl rfl) rfl rfl ?_) | (show opsA _ _ _ _ (⟨_, .indexAddr _ _ _, _, _, _, _⟩ :: _) _ _; refine O_ev WideF.wide rfl (Ev_indexAddr rfl rfl (by omega) (by omega)) rfl rfl ?_) | (show opsA _ _ _ _ (⟨_, .fieldAddr _ _ _, _, _, _, _⟩ :: _) _ _; refine O_ev WideF.wide rfl (Ev_fieldAddr rfl rfl rfl) rfl rfl ?_) | (show opsA _ _ _ _ (⟨_, .binOp _ _ _ _ _, _, _, _, _⟩ :: _) _ _; refine O_ev WideF.wide rfl (Ev_add rfl rfl (wi64 (by omega))) rfl rfl ?_) | (show opsA _ _ _ _ (⟨_, .unOp _ _ _, _, _, _, _⟩ :: _) _ _; refine O_ev WideF.wide rfl (Ev_notb rfl) rfl rfl ?_) | (show opsA _ _ _ _ (⟨_, .alloc _, _, _, _, _⟩ :: _) _ _; (refine O_ef rfl (Ef_alloc WideF.wide rfl ?_); intro b)) | (show opsA _ _ _ _ (⟨_, .store _ _ _, _, _, _, _⟩ :: _) _ _; refine O_ef rfl (Ef_storew WideF.wide rfl rfl rfl rfl rfl ?_))) | (show wpA _ _ _ (.cond _ _ _) _ _ _ _; first | (refine A_if rfl (fun h => ?_) (fun h => ?_) <;> try (exfalso; omega)) | refine A_iffalse rfl ?_))
      all_goals first
        | (exfalso; omega)
        | (have hzy : ¬ z = y := by assumption
           exact End_e (Ret2 rfl rfl rfl) ⟨_, _, .inr (.inr (.inl ⟨ha, hb, hm.conf zb.2.2 hy (List.mem_of_getElem? hz) hzi hzy, rfl, rfl⟩)), RevsE.no _ _⟩)
        | (have hzy : ¬ ¬ z = y := by assumption
           have hzy := Decidable.not_not.1 hzy
           refine Shift.to ⟨_, ?_, j + 1, w, _, no, co, rfl, by omega, hm.same hy (hzy ▸ List.mem_of_getElem? hz), hno, rfl⟩ ⟨rfl, rfl, rfl, ⟨rfl, rfl, rfl, rfl, trivial⟩, Own.subi [0] (by decide) rfl rfl⟩
           omega)
    · rw [decide_eq_false hin] at hpl
      have hput := fun i (hsp : Spot (w.map Rev.id) y.id i) => (show (w.map rrow).take i ++ rrow y :: (w.map rrow).drop i = (putL w y).map rrow by rw [putL_spot hsp hin]; simp)
      have hone := rrow_one w
      have honer : ∀ u ∈ rrow y, u.oneCell' = true := fun u hu => rrow_one [y] (rrow y) (by simp) u hu
      have hsple := fun i (hsp : Spot (w.map Rev.id) y.id i) => (show i ≤ no by have := hsp.le; rw [List.length_map] at this; omega)
      have hins := fun Hx i (hsp : Spot (w.map Rev.id) y.id i) va vc => insRev_fn (H := Hx) (a := ao) (n := no) (cp := co) (va := va) (vc := vc) (i := i) (css := w.map rrow) (nv := rrow y) (hsple i hsp) hone honer (by omega)
      unfold rrow at honer
      repeat' (first | (refine O_ev WideF.wide rfl (Ev_loadH rfl hcy rfl) rfl rfl ?_) | (refine O_ef rfl (Ef_f1 (Ef_call (I := [_]) WideF.wide hpl ⟨rfl, rfl, trivial⟩ rfl ?_)); rintro v H2 I2 hk2 ⟨⟨i, hsp, rfl⟩, rfl, rfl⟩) | (refine O_ef rfl (Ef_f1 (Ef_call (I := [_, _]) WideF.wide (hins _ i hsp _ _) ⟨rfl, rfl, rfl, trivial⟩ rfl ?_)); rintro v H3 I3 hk3 ⟨rfl, a2, c2, rfl, rfl⟩; rw [hput i hsp]) | refine O_nil ?_ | refine A_seq ?_ | refine A_region ?_ | refine A_skip ?_ | refine A_block ?_ | (show opsA _ _ _ _ _ _ _; first | refine O_ev WideF.wide rfl (Ev_pure rfl) rfl rfl ?_ | (show opsA _ _ _ _ (⟨_, .load _ _, _, _, _, _⟩ :: _) _ _; first | refine O_ev WideF.wide rfl (Ev_loadB1 (i := 0) rfl rfl rfl) rfl rfl ?_ | refine O_ev WideF.wide rfl (Ev_loadB (i := 1) rfl rfl rfl) rfl rfl ?_) | (show opsA _ _ _ _ (⟨_, .indexAddr _ _ _, _, _, _, _⟩ :: _) _ _; refine O_ev WideF.wide rfl (Ev_indexAddr rfl rfl (by omega) (by omega)) rfl rfl ?_) | (show opsA _ _ _ _ (⟨_, .fieldAddr _ _ _, _, _, _, _⟩ :: _) _ _; refine O_ev WideF.wide rfl (Ev_fieldAddr rfl rfl rfl) rfl rfl ?_) | (show opsA _ _ _ _ (⟨_, .buildSlice _ _ _, _, _, _, _⟩ :: _) _ _; (refine O_ef rfl (Ef_build1a WideF.wide rfl rfl rfl rfl rfl ?_); intro b)) | (show opsA _ _ _ _ (⟨_, .binOp _ _ _ _ _, _, _, _, _⟩ :: _) _ _; refine O_ev WideF.wide rfl (Ev_add rfl rfl (wi64 (by omega))) rfl rfl ?_) | (show opsA _ _ _ _ (⟨_, .unOp _ _ _, _, _, _, _⟩ :: _) _ _; refine O_ev WideF.wide rfl (Ev_notb rfl) rfl rfl ?_) | (show opsA _ _ _ _ (⟨_, .alloc _, _, _, _, _⟩ :: _) _ _; (refine O_ef rfl (Ef_alloc WideF.wide rfl ?_); intro b)) | (show opsA _ _ _ _ (⟨_, .store _ _ _, _, _, _, _⟩ :: _) _ _; refine O_ef rfl (Ef_storew WideF.wide rfl rfl rfl rfl rfl ?_))) | (show wpA _ _ _ (.cond _ _ _) _ _ _ _; first | (refine A_if rfl (fun h => ?_) (fun h => ?_) <;> try (exfalso; omega)) | refine A_iftrue rfl ?_))
      all_goals first
        | (exfalso; omega)
        | (refine Shift.to ⟨_, ?_, j + 1, putL w y, _, no + 1, _, rfl, by omega, hm.put hy hin, by rw [putL_len, hno], rfl⟩ ⟨rfl, rfl, rfl, ⟨rfl, rfl, rfl, rfl, trivial⟩, Own.subi [0] (by decide) rfl rfl⟩
           omega)
  · have : j = n' := by omega
    subst this
    have hm' : Mrg l l' l'.length w := by rw [e2]; exact hm
    by_cases hbg : 256 < no
    · repeat' (first | refine O_nil ?_ | refine A_seq ?_ | refine A_region ?_ | refine A_ret ?_ | (show opsA _ _ _ _ _ _ _; first | refine O_ev WideF.wide rfl (Ev_pure rfl) rfl rfl ?_ | (show opsA _ _ _ _ (⟨_, .call _, _, _, _, _⟩ :: _) _ _; refine O_ev WideF.wide rfl (Ev_llen rfl) rfl rfl ?_)) | (show wpA _ _ _ (.exit _) _ _ _ _; refine A_exit rfl ?_) | (show wpA _ _ _ (.cond _ _ _) _ _ _ _; (refine A_if rfl (fun h => ?_) (fun h => ?_) <;> try (exfalso; omega))))
      all_goals first
        | (exfalso; omega)
        | exact End_e (Ret2 rfl rfl rfl) ⟨_, _, .inr (.inr (.inr ⟨ha, hb, w, hm', .inl ⟨by omega, rfl, rfl⟩⟩)), RevsE.no _ _⟩
    · repeat' (first | refine O_nil ?_ | refine A_seq ?_ | refine A_region ?_ | refine A_skip ?_ | refine A_ret ?_ | (show opsA _ _ _ _ _ _ _; first | refine O_ev WideF.wide rfl (Ev_pure rfl) rfl rfl ?_ | (show opsA _ _ _ _ (⟨_, .call _, _, _, _, _⟩ :: _) _ _; refine O_ev WideF.wide rfl (Ev_llen rfl) rfl rfl ?_)) | (show wpA _ _ _ (.exit _) _ _ _ _; refine A_exit rfl ?_) | (show wpA _ _ _ (.cond _ _ _) _ _ _ _; (refine A_if rfl (fun h => ?_) (fun h => ?_) <;> try (exfalso; omega))))
      all_goals first
        | (exfalso; omega)
        | exact End_row (Ret2 rfl rfl rfl) (rrow_one w) fun H' hle hr => ⟨w, 0, .inr (.inr (.inr ⟨ha, hb, w, hm', .inr ⟨by omega, rfl, rfl⟩⟩)), ⟨_, _, _, rfl, hr⟩, rfl⟩
end Go.Proofs.Ytlcoebomgaodgaa
