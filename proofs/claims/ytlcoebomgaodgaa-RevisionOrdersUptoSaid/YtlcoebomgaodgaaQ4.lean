/-
  Revisions: what put and Merge make, plain; Add, Remove, Find.
-/
import Derived.Test.YtlcoebomgaodgaaQ3
namespace Go.Proofs.Ytlcoebomgaodgaa
open Go
set_option linter.unusedVariables false
set_option linter.unusedSimpArgs false
theorem atK_spot {l : List Int} {x : Int} {i : Nat} (h : Spot l x i) (hx : x ∉ l) : ∀ k, i ≤ k → k ≤ l.length → atK l x k = i
  | 0, h1, _ => by rw [atK]; omega
  | k + 1, h1, h2 => by
    have hk : l[k]? = some l[k] := List.getElem?_eq_getElem (by omega)
    rw [atK, hk, Option.getD_some]
    by_cases hi : i ≤ k
    · have := h.hi k _ hi hk
      have hne : x ≠ l[k] := fun e => hx (e ▸ List.getElem_mem _)
      rw [if_pos (by omega)]
      exact atK_spot h hx k hi (by omega)
    · have := h.lo k _ (by omega) hk
      rw [if_neg (by omega)]
      omega
theorem putL_spot {l : List Rev} {r : Rev} {i : Nat} (h : Spot (l.map Rev.id) r.id i) (hx : r.id ∉ l.map Rev.id) : putL l r = l.take i ++ r :: l.drop i := by
  have hl := h.le
  rw [List.length_map] at hl
  unfold putL
  rw [atK_spot h hx l.length hl (by simp)]
/-- there is always a place -/
theorem spot_ex {l : List Int} (hs : Inc l) (x : Int) : ∃ i, Spot l x i := by
  induction l with
  | nil => exact ⟨0, by simp, fun j a h => by omega, fun j a _ h => by simp at h⟩
  | cons b t ih =>
    obtain ⟨hb, ht⟩ := List.pairwise_cons.1 hs
    by_cases hlt : b < x
    · obtain ⟨i, h1, h2, h3⟩ := ih ht
      refine ⟨i + 1, by simp; omega, fun j a hj hja => ?_, fun j a hj hja => ?_⟩
      · cases j with
        | zero => simp at hja; omega
        | succ j => exact h2 j a (by omega) (by simpa using hja)
      · cases j with
        | zero => omega
        | succ j => exact h3 j a (by omega) (by simpa using hja)
    · refine ⟨0, by simp, fun j a h => by omega, fun j a _ hja => ?_⟩
      cases j with
      | zero => simp at hja; omega
      | succ j =>
        have := hb a (List.mem_of_getElem? (by simpa using hja))
        omega
theorem inc_put {l : List Int} {x : Int} {i : Nat} (hs : Inc l) (h : Spot l x i) (hx : x ∉ l) : Inc (l.take i ++ x :: l.drop i) := by
  unfold Inc
  rw [List.pairwise_append]
  refine ⟨hs.sublist (List.take_sublist _ _), ?_, ?_⟩
  · rw [List.pairwise_cons]
    refine ⟨fun a ha => ?_, hs.sublist (List.drop_sublist _ _)⟩
    obtain ⟨j, hj⟩ := List.mem_iff_getElem?.1 ha
    rw [List.getElem?_drop] at hj
    have := h.hi _ a (by omega) hj
    have hne : x ≠ a := fun e => hx (e ▸ List.mem_of_getElem? hj)
    omega
  · intro a ha b hb
    obtain ⟨j, hj⟩ := List.mem_iff_getElem?.1 ha
    rw [List.getElem?_take] at hj
    split at hj
    · have h1 := h.lo j a (by omega) hj
      rcases List.mem_cons.1 hb with rfl | hb
      · exact h1
      · obtain ⟨m, hm⟩ := List.mem_iff_getElem?.1 hb
        rw [List.getElem?_drop] at hm
        have := h.hi _ b (by omega) hm
        omega
    · cases hj
theorem putL_inc {l : List Rev} {r : Rev} (hs : Inc (l.map Rev.id)) (hx : r.id ∉ l.map Rev.id) : Inc ((putL l r).map Rev.id) := by
  obtain ⟨i, hi⟩ := spot_ex hs r.id
  rw [putL_spot hi hx, List.map_append, List.map_cons, List.map_take, List.map_drop]
  exact inc_put hs hi hx
theorem putL_mem {l : List Rev} {r x : Rev} : x ∈ putL l r ↔ x ∈ l ∨ x = r := by
  unfold putL
  have h := congrArg (x ∈ ·) (List.take_append_drop (atK (l.map Rev.id) r.id l.length) l)
  simp only [List.mem_append, eq_iff_iff] at h
  simp only [List.mem_append, List.mem_cons, ← h]
  constructor
  · rintro (h | h | h)
    · exact .inl (.inl h)
    · exact .inr h
    · exact .inl (.inr h)
  · rintro ((h | h) | h)
    · exact .inl h
    · exact .inr (.inr h)
    · exact .inr (.inl h)
theorem putL_len (l : List Rev) (r : Rev) : (putL l r).length = l.length + 1 := by
  unfold putL
  have := atK_le (l.map Rev.id) r.id l.length
  simp; omega
/-- tables with the same revisions are the same -/
theorem revs_ext {l l' : List Rev} (h : Inc (l.map Rev.id)) (h' : Inc (l'.map Rev.id)) (hm : ∀ r, r ∈ l ↔ r ∈ l') : l = l' := by
  induction l generalizing l' with
  | nil =>
    cases l' with
    | nil => rfl
    | cons b t => have := (hm b).2 (by simp); cases this
  | cons a t ih =>
    cases l' with
    | nil => have := (hm a).1 (by simp); cases this
    | cons b t' =>
      obtain ⟨ha, ht⟩ := List.pairwise_cons.1 h
      obtain ⟨hb, ht'⟩ := List.pairwise_cons.1 h'
      have hab : a = b := by
        rcases List.mem_cons.1 ((hm a).1 (by simp)) with e | e
        · exact e
        · rcases List.mem_cons.1 ((hm b).2 (by simp)) with e' | e'
          · exact e'.symm
          · have h1 := ha _ (List.mem_map_of_mem e')
            have h2 := hb _ (List.mem_map_of_mem e)
            omega
      subst hab
      have hno : ∀ (q : List Rev), (∀ y ∈ q.map Rev.id, a.id < y) → a ∉ q := fun q hq hm => by have := hq _ (List.mem_map_of_mem hm); omega
      rw [ih ht ht' fun r => ?_]
      constructor
      · intro hr
        rcases List.mem_cons.1 ((hm r).1 (List.mem_cons_of_mem _ hr)) with e | e
        · subst e; exact absurd hr (hno _ ha)
        · exact e
      · intro hr
        rcases List.mem_cons.1 ((hm r).2 (List.mem_cons_of_mem _ hr)) with e | e
        · subst e; exact absurd hr (hno _ hb)
        · exact e
/-- in a table, an id tells the revision -/
theorem inc_uniq {l : List Rev} (h : Inc (l.map Rev.id)) {x y : Rev} (hx : x ∈ l) (hy : y ∈ l) (e : x.id = y.id) : x = y := by
  obtain ⟨i, hi⟩ := List.mem_iff_getElem?.1 hx
  obtain ⟨j, hj⟩ := List.mem_iff_getElem?.1 hy
  have hi' : (l.map Rev.id)[i]? = some x.id := by rw [List.getElem?_map, hi]; rfl
  have hj' : (l.map Rev.id)[j]? = some y.id := by rw [List.getElem?_map, hj]; rfl
  rcases Nat.lt_trichotomy i j with hl | hl | hl
  · have := h.lt hi' hj' hl; omega
  · subst hl; rw [hi] at hj; cases hj; rfl
  · have := h.lt hj' hi' hl; omega
theorem RetCT {P : Program} {fn : Func} {n : Nat} {e : Env} {H : Hp} {M L : Own} {D : List Deferred} {T k b i t t2 : Nat} {cs : List Value} {v2 : Value} [hT : TyC P T true k] (h : fn.results = #[.cell t T, .tmp t2]) (h1 : e.find t = some (.pointer (some ⟨b, 0, none⟩))) (hR : oget M i = some (.box b cs)) (hk : cs.length = k) (h2 : e.find t2 = some v2) : RetOk P fn ⟨n, e, H, M, L, D⟩ (.tuple [.agg cs.toArray, v2].toArray) := fun a w he hr => by
  have r1 : (resOf a.tmps (.cell t T)).run P w = .ok (.agg cs.toArray) w := by
    obtain ⟨T', hb⟩ := hr _ (List.mem_append_left _ (oget_mem hR))
    have h3 := run_load_agg (P := P) (t := T) (w := w) (b := b) (o := 0) hk (fun j v hj => cell_of_heap hb (by simpa using hj))
    simp only [Instr.loadAt, Instr.sureAddr, Sem.run_bind, Sem.run_pure, Result.andThen_ok] at h3
    simp [resOf, he _ _ h1, asAddr, h3]
  have r2 : (resOf a.tmps (.tmp t2)).run P w = .ok v2 w := by simp [resOf, he _ _ h2]
  rw [results_eq, h, Sem.run_bind, run_mapM2 r1 r2]
  rfl
/-! ### Add -/
def addE (l : List Rev) (r : Rev) : Int := if chk l ≠ 0 then chk l else if chkRev r ≠ 0 then chkRev r else if r.id ∈ l.map Rev.id then 7 else if 256 ≤ l.length then 9 else 0
def addL (l : List Rev) (r : Rev) : List Rev := if addE l r = 0 then putL l r else []
/-- revisions and an error that were handed back -/
def RevsE (l : List Rev) (x : Int) (v : Value) (H : Hp) (I : Own) : Prop := (∃ a n c, v = .tuple [.slice a n c, .int .i64 x].toArray ∧ HRow H a n c 3 (l.map rrow)) ∧ I = []
theorem RevsE.no (H : Hp) (x : Int) : RevsE [] x (.tuple [.slice none 0 0, .int .i64 x].toArray) H [] := ⟨⟨none, 0, 0, rfl, HRow.nil' H 3⟩, rfl⟩
attribute [local irreducible] wpA opsA drJ drQ drE Ef Ev Shift Fn
set_option maxRecDepth 100000 in
set_option maxHeartbeats 1000000 in
theorem Add_fn {H : Hp} {a : Option Addr} {n cq : Nat} {l : List Rev} {r : Rev} (hx : HRow H a n cq 3 (l.map rrow)) : Fn Try.prog 31 [.slice a n cq, .agg (rrow r).toArray] H [] (RevsE (addL l r) (addE l r)) := by
  have e1 : l.length = n := by have := hx.len; simpa using this
  have hck := Check_fn hx
  have hcr := CheckRev_fn (H := H) (r := r)
  by_cases h0 : chk l = 0
  · have hz := chk_zero.1 h0
    by_cases h1 : chkRev r = 0
    · have hpl := place_fn (x := r.id) hx hz.2.2 (by omega)
      rw [h0] at hck
      rw [h1] at hcr
      by_cases h2 : r.id ∈ l.map Rev.id
      · have e : addE l r = 7 := by unfold addE; rw [if_neg (by simpa using h0), if_neg (by simpa using h1), if_pos h2]
        have e' : addL l r = [] := by unfold addL; rw [e]; rfl
        rw [e, e']
        rw [decide_eq_true h2] at hpl
        unfold rrow at hcr ⊢
        refine Fn_of _ _ Try.func31 rfl Try.ntmps31 rfl fun c => ?_
        repeat' (first | (refine O_ef rfl (Ef_callp WideF.wide hck ⟨rfl, trivial⟩ rfl ?_)) | (refine O_ef rfl (Ef_callp WideF.wide hcr ⟨rfl, trivial⟩ rfl ?_)) | (refine O_ef rfl (Ef_call (I := []) WideF.wide hpl ⟨rfl, rfl, trivial⟩ rfl ?_); rintro v H' I' hk ⟨⟨i, hsp, rfl⟩, rfl, rfl⟩) | refine O_nil ?_ | refine A_seq ?_ | refine A_region ?_ | refine A_skip ?_ | refine A_ret ?_ | refine A_block ?_ | (show opsA _ _ _ _ _ _ _; first | refine O_ev WideF.wide rfl (Ev_pure rfl) rfl rfl ?_ | (show opsA _ _ _ _ (⟨_, .load _ _, _, _, _, _⟩ :: _) _ _; first | refine O_ev WideF.wide rfl (Ev_loadB1 (i := 0) rfl rfl rfl) rfl rfl ?_ | refine O_ev WideF.wide rfl (Ev_loadB (i := 0) rfl rfl rfl) rfl rfl ?_) | (show opsA _ _ _ _ (⟨_, .fieldAddr _ _ _, _, _, _, _⟩ :: _) _ _; refine O_ev WideF.wide rfl (Ev_fieldAddr rfl rfl rfl) rfl rfl ?_) | (show opsA _ _ _ _ (⟨_, .box _ _, _, _, _, _⟩ :: _) _ _; (refine O_ef rfl (Ef_boxa WideF.wide rfl rfl ?_); intro b))) | (show wpA _ _ _ (.cond _ _ _) _ _ _ _; first | (refine A_if rfl (fun h => ?_) (fun h => ?_) <;> try (exfalso; omega)) | refine A_iftrue rfl ?_))
        all_goals first
          | (exfalso; omega)
          | exact End_e (Ret2 rfl rfl rfl) (RevsE.no _ _)
      · rw [decide_eq_false h2] at hpl
        by_cases h3 : 256 ≤ l.length
        · have e : addE l r = 9 := by unfold addE; rw [if_neg (by simpa using h0), if_neg (by simpa using h1), if_neg h2, if_pos h3]
          have e' : addL l r = [] := by unfold addL; rw [e]; rfl
          rw [e, e']
          unfold rrow at hcr ⊢
          refine Fn_of _ _ Try.func31 rfl Try.ntmps31 rfl fun c => ?_
          repeat' (first | (refine O_ef rfl (Ef_callp WideF.wide hck ⟨rfl, trivial⟩ rfl ?_)) | (refine O_ef rfl (Ef_callp WideF.wide hcr ⟨rfl, trivial⟩ rfl ?_)) | (refine O_ef rfl (Ef_call (I := []) WideF.wide hpl ⟨rfl, rfl, trivial⟩ rfl ?_); rintro v H' I' hk ⟨⟨i, hsp, rfl⟩, rfl, rfl⟩) | refine O_nil ?_ | refine A_seq ?_ | refine A_region ?_ | refine A_skip ?_ | refine A_ret ?_ | refine A_block ?_ | (show opsA _ _ _ _ _ _ _; first | refine O_ev WideF.wide rfl (Ev_pure rfl) rfl rfl ?_ | (show opsA _ _ _ _ (⟨_, .load _ _, _, _, _, _⟩ :: _) _ _; first | refine O_ev WideF.wide rfl (Ev_loadB1 (i := 0) rfl rfl rfl) rfl rfl ?_ | refine O_ev WideF.wide rfl (Ev_loadB (i := 0) rfl rfl rfl) rfl rfl ?_) | (show opsA _ _ _ _ (⟨_, .fieldAddr _ _ _, _, _, _, _⟩ :: _) _ _; refine O_ev WideF.wide rfl (Ev_fieldAddr rfl rfl rfl) rfl rfl ?_) | (show opsA _ _ _ _ (⟨_, .call _, _, _, _, _⟩ :: _) _ _; refine O_ev WideF.wide rfl (Ev_llen rfl) rfl rfl ?_) | (show opsA _ _ _ _ (⟨_, .box _ _, _, _, _, _⟩ :: _) _ _; (refine O_ef rfl (Ef_boxa WideF.wide rfl rfl ?_); intro b))) | (show wpA _ _ _ (.cond _ _ _) _ _ _ _; first | (refine A_if rfl (fun h => ?_) (fun h => ?_) <;> try (exfalso; omega)) | refine A_iffalse rfl ?_))
          all_goals first
            | (exfalso; omega)
            | exact End_e (Ret2 rfl rfl rfl) (RevsE.no _ _)
        · have e : addE l r = 0 := by unfold addE; rw [if_neg (by simpa using h0), if_neg (by simpa using h1), if_neg h2, if_neg h3]
          have e' : addL l r = putL l r := by unfold addL; rw [if_pos e]
          rw [e, e']
          have hcl := CloneRev_fn hx (by omega)
          have hone := rrow_one l
          have honer : ∀ u ∈ rrow r, u.oneCell' = true := fun u hu => rrow_one [r] (rrow r) (by simp) u hu
          have hput := fun i (hsp : Spot (l.map Rev.id) r.id i) => (show (putL l r).map rrow = (l.map rrow).take i ++ rrow r :: (l.map rrow).drop i by rw [putL_spot hsp h2]; simp)
          have hput3 := fun i (hsp : Spot (l.map Rev.id) r.id i) => (show ∀ cs ∈ (l.map rrow).take i ++ rrow r :: (l.map rrow).drop i, ∀ u ∈ cs, u.oneCell' = true by rw [← hput i hsp]; exact rrow_one _)
          unfold rrow at hcr honer
          refine Fn_of _ _ Try.func31 rfl Try.ntmps31 rfl fun c => ?_
          unfold rrow
          repeat' (first | (refine O_ef rfl (Ef_callp WideF.wide hck ⟨rfl, trivial⟩ rfl ?_)) | (refine O_ef rfl (Ef_callp WideF.wide hcr ⟨rfl, trivial⟩ rfl ?_)) | (refine O_ef rfl (Ef_call (I := []) WideF.wide hpl ⟨rfl, rfl, trivial⟩ rfl ?_); rintro v H' I' hk ⟨⟨i, hsp, rfl⟩, rfl, rfl⟩; have hile := hsp.le; rw [List.length_map] at hile) | (refine A_drawL WideF.wide (.q 0 (.q 2 (.q 3 (.f 1 (.e 4 (.e 5 (.q 6 (.q 7 (.done []))))) 4 (.e 1 (.e 5 (.q 6 (.q 7 (.done []))))))))) [] (by decide +kernel) ?_) | (refine E_ef rfl (Ef_call (I := []) WideF.wide hcl ⟨rfl, trivial⟩ rfl ?_); rintro v H' I' hk ⟨rfl, a', c', rfl, rfl⟩; refine ⟨Grow.same rfl rfl, ?_⟩) | (refine E_ef rfl (Ef_call (I := [_, _]) WideF.wide (insRev_fn (i := i) (by omega) hone honer (by omega)) ⟨rfl, rfl, rfl, trivial⟩ rfl ?_); rintro v H' I' hk ⟨rfl, a2, c2, rfl, rfl⟩; refine ⟨Grow.same rfl rfl, ?_⟩) | (refine E_ef rfl (Ef_f1 (Ef_call (I := [_, _]) WideF.wide (insRev_fn (i := i) (by omega) hone honer (by omega)) ⟨rfl, rfl, rfl, trivial⟩ rfl ?_)); rintro v H' I' hk ⟨rfl, a2, c2, rfl, rfl⟩; refine ⟨Grow.same rfl rfl, ?_⟩) | refine O_nil ?_ | refine A_seq ?_ | refine A_region ?_ | refine A_skip ?_ | refine A_ret ?_ | refine A_block ?_ | (show drJ _ _ _ _ _ _ _ (.q _ _) _; refine D_q rfl ?_) | (show drJ _ _ _ _ _ _ _ (.e _ _) _; refine D_e rfl ?_) | (show drJ _ _ _ _ _ _ _ (.f _ _ _ _) _; refine D_f rfl rfl ?_ ?_) | (show drJ _ _ _ _ _ _ _ (.done _) _; refine D_done ?_; simp only [List.cons_append, List.nil_append]) | (show drQ _ _ _ _ _ _; first | refine D_ev rfl (Ev_pure rfl) rfl rfl ?_ | (show drQ _ _ _ ⟨_, .load _ _, _, _, _, _⟩ _ _; refine D_ev rfl (Ev_loadB (i := 0) rfl rfl rfl) rfl rfl ?_)) | (show drE _ _ _ _ _ _ _; (show drE _ _ _ _ ⟨_, .buildSlice _ _ _, _, _, _, _⟩ _ _; (refine E_ef rfl (Ef_build1a WideF.wide rfl rfl rfl rfl rfl ?_); intro b; refine ⟨Grow.same rfl rfl, ?_⟩))) | (show opsA _ _ _ _ _ _ _; first | refine O_ev WideF.wide rfl (Ev_pure rfl) rfl rfl ?_ | (show opsA _ _ _ _ (⟨_, .load _ _, _, _, _, _⟩ :: _) _ _; first | refine O_ev WideF.wide rfl (Ev_loadB1 (i := 0) rfl rfl rfl) rfl rfl ?_ | refine O_ev WideF.wide rfl (Ev_loadB (i := 0) rfl rfl rfl) rfl rfl ?_) | (show opsA _ _ _ _ (⟨_, .fieldAddr _ _ _, _, _, _, _⟩ :: _) _ _; refine O_ev WideF.wide rfl (Ev_fieldAddr rfl rfl rfl) rfl rfl ?_) | (show opsA _ _ _ _ (⟨_, .call _, _, _, _, _⟩ :: _) _ _; refine O_ev WideF.wide rfl (Ev_llen rfl) rfl rfl ?_) | (show opsA _ _ _ _ (⟨_, .box _ _, _, _, _, _⟩ :: _) _ _; (refine O_ef rfl (Ef_boxa WideF.wide rfl rfl ?_); intro b))) | (show wpA _ _ _ (.cond _ _ _) _ _ _ _; first | (refine A_if rfl (fun h => ?_) (fun h => ?_) <;> try (exfalso; omega)) | refine A_iffalse rfl ?_))
          all_goals first
            | (exfalso; omega)
            | exact End_row (Ret2 rfl rfl rfl) (hput3 _ hsp) fun H' hle hr => ⟨⟨_, _, _, rfl, hr.cong (hput _ hsp)⟩, rfl⟩
    · have e : addE l r = chkRev r := by unfold addE; rw [if_neg (by simpa using h0), if_pos h1]
      have e' : addL l r = [] := by unfold addL; rw [e, if_neg h1]
      rw [e, e']
      rw [h0] at hck
      unfold rrow at hcr ⊢
      refine Fn_of _ _ Try.func31 rfl Try.ntmps31 rfl fun c => ?_
      repeat' (first | (refine O_ef rfl (Ef_callp WideF.wide hck ⟨rfl, trivial⟩ rfl ?_)) | (refine O_ef rfl (Ef_callp WideF.wide hcr ⟨rfl, trivial⟩ rfl ?_)) | refine O_nil ?_ | refine A_seq ?_ | refine A_region ?_ | refine A_skip ?_ | refine A_ret ?_ | (show opsA _ _ _ _ _ _ _; first | refine O_ev WideF.wide rfl (Ev_pure rfl) rfl rfl ?_ | (show opsA _ _ _ _ (⟨_, .load _ _, _, _, _, _⟩ :: _) _ _; refine O_ev WideF.wide rfl (Ev_loadB (i := 0) rfl rfl rfl) rfl rfl ?_) | (show opsA _ _ _ _ (⟨_, .box _ _, _, _, _, _⟩ :: _) _ _; (refine O_ef rfl (Ef_boxa WideF.wide rfl rfl ?_); intro b))) | (show wpA _ _ _ (.cond _ _ _) _ _ _ _; (refine A_if rfl (fun h => ?_) (fun h => ?_) <;> try (exfalso; omega))))
      all_goals first
        | (exfalso; omega)
        | (exfalso; exact h1 (by assumption))
        | exact End_e (Ret2 rfl rfl rfl) (RevsE.no _ _)
  · have e : addE l r = chk l := by unfold addE; rw [if_pos h0]
    have e' : addL l r = [] := by unfold addL; rw [e, if_neg h0]
    rw [e, e']
    unfold rrow
    refine Fn_of _ _ Try.func31 rfl Try.ntmps31 rfl fun c => ?_
    repeat' (first | (refine O_ef rfl (Ef_callp WideF.wide hck ⟨rfl, trivial⟩ rfl ?_)) | refine O_nil ?_ | refine A_seq ?_ | refine A_region ?_ | refine A_ret ?_ | (show opsA _ _ _ _ _ _ _; first | refine O_ev WideF.wide rfl (Ev_pure rfl) rfl rfl ?_ | (show opsA _ _ _ _ (⟨_, .box _ _, _, _, _, _⟩ :: _) _ _; (refine O_ef rfl (Ef_boxa WideF.wide rfl rfl ?_); intro b))) | (show wpA _ _ _ (.cond _ _ _) _ _ _ _; (refine A_if rfl (fun h => ?_) (fun h => ?_) <;> try (exfalso; omega))))
    all_goals first
      | (exfalso; omega)
      | (exfalso; exact h0 (by assumption))
      | exact End_e (Ret2 rfl rfl rfl) (RevsE.no _ _)
/-! ### Remove -/
def remL (l : List Rev) (ids : List Int) : List Rev := l.filter fun r => decide (r.id ∉ ids)
theorem remL_snoc (l : List Rev) (r : Rev) (ids : List Int) : remL (l ++ [r]) ids = if r.id ∈ ids then remL l ids else remL l ids ++ [r] := by
  unfold remL
  rw [List.filter_append]
  by_cases h : r.id ∈ ids <;> simp [h]
theorem remL_len (l : List Rev) (ids : List Int) : (remL l ids).length ≤ l.length := List.length_filter_le _ _
set_option maxRecDepth 100000 in
set_option maxHeartbeats 1000000 in
theorem Remove_fn {H : Hp} {a a' : Option Addr} {n cq n' cq' : Nat} {l : List Rev} {ids : List Int} (hx : HRow H a n cq 3 (l.map rrow)) (hi : HRow H a' n' cq' 1 (ids.map irow)) (hm : n < 1048576) (hm' : n' < 68719476736) : Fn Try.prog 33 [.slice a n cq, .slice a' n' cq'] H [] (RevsIs (remL l ids)) := by
  have e1 : l.length = n := by have := hx.len; simpa using this
  refine Fn_of _ _ Try.func33 rfl Try.ntmps33 rfl fun c => ?_
  refine A_nilrow 3 ?_
  repeat' (first | refine O_nil ?_ | refine A_seq ?_ | refine A_region ?_ | refine A_block ?_ | (show opsA _ _ _ _ _ _ _; first | refine O_ev WideF.wide rfl (Ev_pure rfl) rfl rfl ?_ | (show opsA _ _ _ _ (⟨_, .call _, _, _, _, _⟩ :: _) _ _; refine O_ev WideF.wide rfl (Ev_llen rfl) rfl rfl ?_)))
  refine A_loopu (fun m st => ∃ (k : Nat) (b : Option Addr) (q c' : Nat) (p : List (List Value)), m = n - k ∧ k ≤ n ∧ p.length = q ∧ p = (remL (l.take k) ids).map rrow ∧ st = ⟨25, [(1, .slice a' n' cq'), (5, .slice b q c'), (8, .slice a n cq), (9, .int .i64 (n : Int)), (10, .int .i64 (k : Int))], H, [.row (.slice b q c') 3 p], [], []⟩) ?_ ?_
  · exact Shift.to ⟨_, 0, none, 0, 0, [], rfl, by omega, rfl, rfl, rfl⟩ ⟨rfl, rfl, rfl, ⟨rfl, rfl, rfl, rfl, rfl, trivial⟩, Own.subi [0] (by decide) rfl rfl⟩
  · rintro m st ⟨k, b, q, c', p, rfl, hk, hpn, hp, rfl⟩
    have hpl : p.length ≤ k := by rw [hp, List.length_map]; have := remL_len (l.take k) ids; rw [List.length_take] at this; omega
    by_cases hlt : k < n
    · obtain ⟨b1, o1, y, rfl, hy, hc⟩ := hx.atm k hlt
      have hco := fun Hx => ContainsI_fn (H := Hx) (x := y.id) (l := ids) (a := a') (n := n') (cq := cq')
      have hsn := remL_snoc (l.take k) y ids
      rw [← take_get hy] at hsn
      unfold rrow at hc
      by_cases hin : y.id ∈ ids
      · rw [if_pos hin] at hsn
        rw [decide_eq_true hin] at hco
        repeat' (first | (refine O_ev WideF.wide rfl (Ev_loadH rfl hc rfl) rfl rfl ?_) | (refine O_ef rfl (Ef_callp WideF.wide (hco _ hi hm') ⟨rfl, rfl, trivial⟩ rfl ?_)) | refine O_nil ?_ | refine A_seq ?_ | refine A_region ?_ | refine A_skip ?_ | refine A_block ?_ | (show opsA _ _ _ _ _ _ _; first | refine O_ev WideF.wide rfl (Ev_pure rfl) rfl rfl ?_ | (show opsA _ _ _ _ (⟨_, .load _ _, _, _, _, _⟩ :: _) _ _; refine O_ev WideF.wide rfl (Ev_loadB1 (i := 0) rfl rfl rfl) rfl rfl ?_) | (show opsA _ _ _ _ (⟨_, .indexAddr _ _ _, _, _, _, _⟩ :: _) _ _; refine O_ev WideF.wide rfl (Ev_indexAddr rfl rfl (by omega) (by omega)) rfl rfl ?_) | (show opsA _ _ _ _ (⟨_, .fieldAddr _ _ _, _, _, _, _⟩ :: _) _ _; refine O_ev WideF.wide rfl (Ev_fieldAddr rfl rfl rfl) rfl rfl ?_) | (show opsA _ _ _ _ (⟨_, .binOp _ _ _ _ _, _, _, _, _⟩ :: _) _ _; refine O_ev WideF.wide rfl (Ev_add rfl rfl (wi64 (by omega))) rfl rfl ?_) | (show opsA _ _ _ _ (⟨_, .unOp _ _ _, _, _, _, _⟩ :: _) _ _; refine O_ev WideF.wide rfl (Ev_notb rfl) rfl rfl ?_) | (show opsA _ _ _ _ (⟨_, .alloc _, _, _, _, _⟩ :: _) _ _; (refine O_ef rfl (Ef_alloc WideF.wide rfl ?_); intro b)) | (show opsA _ _ _ _ (⟨_, .store _ _ _, _, _, _, _⟩ :: _) _ _; refine O_ef rfl (Ef_storew WideF.wide rfl rfl rfl rfl rfl ?_))) | (show wpA _ _ _ (.cond _ _ _) _ _ _ _; first | (refine A_if rfl (fun h => ?_) (fun h => ?_) <;> try (exfalso; omega)) | refine A_iffalse rfl ?_))
        all_goals first
          | (exfalso; omega)
          | (refine Shift.to ⟨_, ?_, k + 1, _, _, _, p, rfl, by omega, hpn, by rw [hsn, hp], rfl⟩ ⟨rfl, rfl, rfl, ⟨rfl, rfl, rfl, rfl, rfl, trivial⟩, Own.subi [1] (by decide) rfl rfl⟩
             omega)
      · rw [if_neg hin] at hsn
        rw [decide_eq_false hin] at hco
        repeat' (first | (refine O_ev WideF.wide rfl (Ev_loadH rfl hc rfl) rfl rfl ?_) | (refine O_ef rfl (Ef_callp WideF.wide (hco _ hi hm') ⟨rfl, rfl, trivial⟩ rfl ?_)) | refine O_nil ?_ | refine A_seq ?_ | refine A_region ?_ | refine A_skip ?_ | refine A_block ?_ | (show opsA _ _ _ _ _ _ _; first | refine O_ev WideF.wide rfl (Ev_pure rfl) rfl rfl ?_ | (show opsA _ _ _ _ (⟨_, .load _ _, _, _, _, _⟩ :: _) _ _; first | refine O_ev WideF.wide rfl (Ev_loadB1 (i := 0) rfl rfl rfl) rfl rfl ?_ | refine O_ev WideF.wide rfl (Ev_loadB (i := 0) rfl rfl rfl) rfl rfl ?_) | (show opsA _ _ _ _ (⟨_, .indexAddr _ _ _, _, _, _, _⟩ :: _) _ _; refine O_ev WideF.wide rfl (Ev_indexAddr rfl rfl (by omega) (by omega)) rfl rfl ?_) | (show opsA _ _ _ _ (⟨_, .fieldAddr _ _ _, _, _, _, _⟩ :: _) _ _; refine O_ev WideF.wide rfl (Ev_fieldAddr rfl rfl rfl) rfl rfl ?_) | (show opsA _ _ _ _ (⟨_, .call _, _, _, _, _⟩ :: _) _ _; (refine O_f2 (O_ef rfl (Ef_appendR WideF.wide rfl rfl rfl rfl rfl (by simp; omega) (by simp; omega) rfl ?_)); intro a cp)) | (show opsA _ _ _ _ (⟨_, .buildSlice _ _ _, _, _, _, _⟩ :: _) _ _; (refine O_ef rfl (Ef_build1a WideF.wide rfl rfl rfl rfl rfl ?_); intro b)) | (show opsA _ _ _ _ (⟨_, .binOp _ _ _ _ _, _, _, _, _⟩ :: _) _ _; refine O_ev WideF.wide rfl (Ev_add rfl rfl (wi64 (by omega))) rfl rfl ?_) | (show opsA _ _ _ _ (⟨_, .unOp _ _ _, _, _, _, _⟩ :: _) _ _; refine O_ev WideF.wide rfl (Ev_notb rfl) rfl rfl ?_) | (show opsA _ _ _ _ (⟨_, .alloc _, _, _, _, _⟩ :: _) _ _; (refine O_ef rfl (Ef_alloc WideF.wide rfl ?_); intro b)) | (show opsA _ _ _ _ (⟨_, .store _ _ _, _, _, _, _⟩ :: _) _ _; refine O_ef rfl (Ef_storew WideF.wide rfl rfl rfl rfl rfl ?_))) | (show wpA _ _ _ (.cond _ _ _) _ _ _ _; first | (refine A_if rfl (fun h => ?_) (fun h => ?_) <;> try (exfalso; omega)) | refine A_iftrue rfl ?_))
        all_goals first
          | (exfalso; omega)
          | (refine Shift.to ⟨_, ?_, k + 1, _, _, _, p ++ [rrow y], rfl, by omega, rfl, by rw [hsn, hp]; simp, rfl⟩ ⟨rfl, rfl, rfl, ⟨rfl, rfl, rfl, rfl, rfl, trivial⟩, Own.subi [0] (by decide) rfl rfl⟩
             omega)
    · rw [List.take_of_length_le (by omega)] at hp
      repeat' (first | refine O_nil ?_ | refine A_seq ?_ | refine A_region ?_ | refine A_ret ?_ | (show opsA _ _ _ _ _ _ _; refine O_ev WideF.wide rfl (Ev_pure rfl) rfl rfl ?_) | (show wpA _ _ _ (.exit _) _ _ _ _; refine A_exit rfl ?_) | (show wpA _ _ _ (.cond _ _ _) _ _ _ _; (refine A_if rfl (fun h => ?_) (fun h => ?_) <;> try (exfalso; omega))))
      all_goals first
        | (exfalso; omega)
        | exact End_row (Ret1 rfl rfl) (by rw [hp]; exact rrow_one _) fun H' hle hr => ⟨⟨_, _, _, rfl, hr.cong hp.symm⟩, rfl⟩
/-! ### Find -/
def zrev : Rev := ⟨0, [], 0⟩
/-- the revision with an id that was handed back, if there is one -/
def FindIs (l : List Rev) (x : Int) (v : Value) : Prop := (findK l x 0 = -1 ∧ v = .tuple [.agg (rrow zrev).toArray, .bool false].toArray) ∨ ∃ (j : Nat) (y : Rev), findK l x 0 = j ∧ l[j]? = some y ∧ v = .tuple [.agg (rrow y).toArray, .bool true].toArray
theorem findK_spot {l : List Rev} {x : Int} (hs : Inc (l.map Rev.id)) {i : Nat} {y : Rev} (hy : l[i]? = some y) (he : y.id = x) : findK l x 0 = i := by
  rcases findK_spec l x 0 with ⟨_, h⟩ | ⟨j, z, h1, _, h3, h4⟩
  · exact absurd he (h y (List.mem_of_getElem? (by rw [List.drop_zero]; exact hy)))
  · have hi' : (l.map Rev.id)[i]? = some x := by rw [List.getElem?_map, hy, ← he]; rfl
    have hj' : (l.map Rev.id)[j]? = some x := by rw [List.getElem?_map, h3, ← h4]; rfl
    rw [h1]
    rcases Nat.lt_trichotomy i j with hl | hl | hl
    · have := hs.lt hi' hj' hl; omega
    · rw [hl]
    · have := hs.lt hj' hi' hl; omega
theorem findK_none {l : List Rev} {x : Int} (h : x ∉ l.map Rev.id) : findK l x 0 = -1 := by
  rcases findK_spec l x 0 with ⟨h1, _⟩ | ⟨j, z, _, _, h3, h4⟩
  · exact h1
  · exact absurd (List.mem_map.2 ⟨z, List.mem_of_getElem? h3, h4⟩) h
set_option maxRecDepth 100000 in
set_option maxHeartbeats 1000000 in
theorem Find_fn {H : Hp} {a : Option Addr} {n cq : Nat} {l : List Rev} {x : Int} (hx : HRow H a n cq 3 (l.map rrow)) (hm : n < 1048576) : Fn Try.prog 32 [.slice a n cq, .int .i64 x] H [] fun v H' I => FindIs l x v ∧ H' = H ∧ I = [] := by
  have e1 : l.length = n := by have := hx.len; simpa using this
  have hck := Check_fn hx
  by_cases h0 : chk l = 0
  · have hz := chk_zero.1 h0
    have hpl := place_fn (x := x) hx hz.2.2 (by omega)
    rw [h0] at hck
    by_cases h2 : x ∈ l.map Rev.id
    · rw [decide_eq_true h2] at hpl
      have hat := fun i (hsp : Spot (l.map Rev.id) x i) => (show ∃ b o y, a = some ⟨b, o, none⟩ ∧ l[i]? = some y ∧ HCells H b (o + i * 3) (rrow y) ∧ i < n ∧ y.id = x by
        have hg := (hsp.mem hz.2.2).1 h2
        have hi : i < n := by have := (List.getElem?_eq_some_iff.1 hg).1; rw [List.length_map] at this; omega
        obtain ⟨b, o, y, ha, hy, hc⟩ := hx.atm i hi
        rw [List.getElem?_map, hy] at hg
        exact ⟨b, o, y, ha, hy, hc, hi, by simpa using hg⟩)
      refine Fn_of _ _ Try.func32 rfl Try.ntmps32 rfl fun c => ?_
      repeat' (first | (refine O_ef rfl (Ef_callp WideF.wide hck ⟨rfl, trivial⟩ rfl ?_)) | (refine O_ef rfl (Ef_call (I := []) WideF.wide hpl ⟨rfl, rfl, trivial⟩ rfl ?_); rintro v H' I' hk ⟨⟨i, hsp, rfl⟩, rfl, rfl⟩; obtain ⟨b, o, y, rfl, hy, hc, hin, hye⟩ := hat i hsp; unfold rrow at hc) | (refine O_ev WideF.wide rfl (Ev_loadH rfl hc rfl) rfl rfl ?_) | refine O_nil ?_ | refine A_seq ?_ | refine A_region ?_ | refine A_ret ?_ | (show opsA _ _ _ _ _ _ _; first | refine O_ev WideF.wide rfl (Ev_pure rfl) rfl rfl ?_ | (show opsA _ _ _ _ (⟨_, .indexAddr _ _ _, _, _, _, _⟩ :: _) _ _; refine O_ev WideF.wide rfl (Ev_indexAddr rfl rfl (by omega) (by omega)) rfl rfl ?_) | (show opsA _ _ _ _ (⟨_, .alloc _, _, _, _, _⟩ :: _) _ _; (refine O_ef rfl (Ef_alloc WideF.wide rfl ?_); intro b)) | (show opsA _ _ _ _ (⟨_, .store _ _ _, _, _, _, _⟩ :: _) _ _; refine O_ef rfl (Ef_storew WideF.wide rfl rfl rfl rfl rfl ?_))) | (show wpA _ _ _ (.cond _ _ _) _ _ _ _; first | (refine A_if rfl (fun h => ?_) (fun h => ?_) <;> try (exfalso; omega)) | refine A_iftrue rfl ?_))
      all_goals first
        | (exfalso; omega)
        | exact End_e (RetCT rfl rfl (i := 0) rfl rfl rfl) ⟨.inr ⟨_, _, findK_spot hz.2.2 hy hye, hy, rfl⟩, rfl, rfl⟩
    · rw [decide_eq_false h2] at hpl
      refine Fn_of _ _ Try.func32 rfl Try.ntmps32 rfl fun c => ?_
      repeat' (first | (refine O_ef rfl (Ef_callp WideF.wide hck ⟨rfl, trivial⟩ rfl ?_)) | (refine O_ef rfl (Ef_call (I := []) WideF.wide hpl ⟨rfl, rfl, trivial⟩ rfl ?_); rintro v H' I' hk ⟨⟨i, hsp, rfl⟩, rfl, rfl⟩) | refine O_nil ?_ | refine A_seq ?_ | refine A_region ?_ | refine A_skip ?_ | refine A_ret ?_ | (show opsA _ _ _ _ _ _ _; first | refine O_ev WideF.wide rfl (Ev_pure rfl) rfl rfl ?_ | (show opsA _ _ _ _ (⟨_, .build _ _, _, _, _, _⟩ :: _) _ _; refine O_ev WideF.wide rfl (Ev_build (vs := []) trivial rfl) rfl rfl ?_) | (show opsA _ _ _ _ (⟨_, .alloc _, _, _, _, _⟩ :: _) _ _; (refine O_ef rfl (Ef_alloc WideF.wide rfl ?_); intro b)) | (show opsA _ _ _ _ (⟨_, .store _ _ _, _, _, _, _⟩ :: _) _ _; refine O_ef rfl (Ef_storew WideF.wide rfl rfl rfl rfl rfl ?_))) | (show wpA _ _ _ (.cond _ _ _) _ _ _ _; first | (refine A_if rfl (fun h => ?_) (fun h => ?_) <;> try (exfalso; omega)) | refine A_iffalse rfl ?_))
      all_goals first
        | (exfalso; omega)
        | exact End_e (RetCT rfl rfl (i := 0) rfl rfl rfl) ⟨.inl ⟨findK_none h2, rfl⟩, rfl, rfl⟩
  · refine Fn_of _ _ Try.func32 rfl Try.ntmps32 rfl fun c => ?_
    repeat' (first | (refine O_ef rfl (Ef_callp WideF.wide hck ⟨rfl, trivial⟩ rfl ?_)) | refine O_nil ?_ | refine A_seq ?_ | refine A_region ?_ | refine A_skip ?_ | refine A_block ?_ | (show opsA _ _ _ _ _ _ _; first | refine O_ev WideF.wide rfl (Ev_pure rfl) rfl rfl ?_ | (show opsA _ _ _ _ (⟨_, .call _, _, _, _, _⟩ :: _) _ _; refine O_ev WideF.wide rfl (Ev_llen rfl) rfl rfl ?_) | (show opsA _ _ _ _ (⟨_, .alloc _, _, _, _, _⟩ :: _) _ _; (refine O_ef rfl (Ef_alloc WideF.wide rfl ?_); intro b))) | (show wpA _ _ _ (.cond _ _ _) _ _ _ _; (refine A_if rfl (fun h => ?_) (fun h => ?_) <;> try (exfalso; omega))))
    all_goals try (exfalso; first | omega | exact h0 (by assumption))
    refine A_loopu (fun m st => ∃ (k b4 : Nat) (z : List Value), m = n - k ∧ k ≤ n ∧ findK l x 0 = findK l x k ∧ z.length = 3 ∧ st = ⟨38, [(1, .int .i64 x), (4, .pointer (some ⟨b4, 0, none⟩)), (25, .slice a n cq), (26, .int .i64 (n : Int)), (27, .int .i64 (k : Int))], H, [.box b4 z], [], []⟩) ?_ ?_
    · exact Shift.to ⟨_, 0, _, _, rfl, by omega, rfl, rfl, rfl⟩ ⟨rfl, rfl, rfl, ⟨rfl, rfl, rfl, rfl, rfl, trivial⟩, Own.subi [0] (by decide) rfl rfl⟩
    · rintro m st ⟨k, b4, z, rfl, hk, hf, hz, rfl⟩
      by_cases hlt : k < n
      · obtain ⟨b, o, y, rfl, hy, hc⟩ := hx.atm k hlt
        unfold rrow at hc
        by_cases hye : y.id = x
        · rw [findK_hit (k := k) hy hye] at hf
          repeat' (first | (refine O_ev WideF.wide rfl (Ev_loadH rfl hc rfl) rfl rfl ?_) | (refine O_f1 (O_ef rfl (Ef_storew WideF.wide rfl rfl rfl rfl hz ?_))) | refine O_nil ?_ | refine A_seq ?_ | refine A_region ?_ | refine A_skip ?_ | refine A_ret ?_ | refine A_block ?_ | (show opsA _ _ _ _ _ _ _; first | refine O_ev WideF.wide rfl (Ev_pure rfl) rfl rfl ?_ | (show opsA _ _ _ _ (⟨_, .load _ _, _, _, _, _⟩ :: _) _ _; first | refine O_ev WideF.wide rfl (Ev_loadB1 (i := 0) rfl rfl rfl) rfl rfl ?_ | refine O_ev WideF.wide rfl (Ev_loadB (i := 0) rfl rfl rfl) rfl rfl ?_) | (show opsA _ _ _ _ (⟨_, .indexAddr _ _ _, _, _, _, _⟩ :: _) _ _; refine O_ev WideF.wide rfl (Ev_indexAddr rfl rfl (by omega) (by omega)) rfl rfl ?_) | (show opsA _ _ _ _ (⟨_, .fieldAddr _ _ _, _, _, _, _⟩ :: _) _ _; refine O_ev WideF.wide rfl (Ev_fieldAddr rfl rfl rfl) rfl rfl ?_) | (show opsA _ _ _ _ (⟨_, .alloc _, _, _, _, _⟩ :: _) _ _; (refine O_ef rfl (Ef_alloc WideF.wide rfl ?_); intro b)) | (show opsA _ _ _ _ (⟨_, .store _ _ _, _, _, _, _⟩ :: _) _ _; refine O_ef rfl (Ef_storew WideF.wide rfl rfl rfl rfl rfl ?_))) | (show wpA _ _ _ (.cond _ _ _) _ _ _ _; (refine A_if rfl (fun h => ?_) (fun h => ?_) <;> try (exfalso; omega))))
          all_goals first
            | (exfalso; omega)
            | exact End_e (RetCT rfl rfl (i := 0) rfl rfl rfl) ⟨.inr ⟨_, _, hf, hy, rfl⟩, rfl, rfl⟩
            | exact End_e (RetCT rfl rfl (i := 1) rfl rfl rfl) ⟨.inr ⟨_, _, hf, hy, rfl⟩, rfl, rfl⟩
        · rw [findK_miss (k := k) hy hye] at hf
          repeat' (first | (refine O_ev WideF.wide rfl (Ev_loadH rfl hc rfl) rfl rfl ?_) | refine O_nil ?_ | refine A_seq ?_ | refine A_region ?_ | refine A_skip ?_ | refine A_block ?_ | (show opsA _ _ _ _ _ _ _; first | refine O_ev WideF.wide rfl (Ev_pure rfl) rfl rfl ?_ | (show opsA _ _ _ _ (⟨_, .load _ _, _, _, _, _⟩ :: _) _ _; refine O_ev WideF.wide rfl (Ev_loadB1 (i := 0) rfl rfl rfl) rfl rfl ?_) | (show opsA _ _ _ _ (⟨_, .indexAddr _ _ _, _, _, _, _⟩ :: _) _ _; refine O_ev WideF.wide rfl (Ev_indexAddr rfl rfl (by omega) (by omega)) rfl rfl ?_) | (show opsA _ _ _ _ (⟨_, .fieldAddr _ _ _, _, _, _, _⟩ :: _) _ _; refine O_ev WideF.wide rfl (Ev_fieldAddr rfl rfl rfl) rfl rfl ?_) | (show opsA _ _ _ _ (⟨_, .binOp _ _ _ _ _, _, _, _, _⟩ :: _) _ _; refine O_ev WideF.wide rfl (Ev_add rfl rfl (wi64 (by omega))) rfl rfl ?_) | (show opsA _ _ _ _ (⟨_, .alloc _, _, _, _, _⟩ :: _) _ _; (refine O_ef rfl (Ef_alloc WideF.wide rfl ?_); intro b)) | (show opsA _ _ _ _ (⟨_, .store _ _ _, _, _, _, _⟩ :: _) _ _; refine O_ef rfl (Ef_storew WideF.wide rfl rfl rfl rfl rfl ?_))) | (show wpA _ _ _ (.cond _ _ _) _ _ _ _; (refine A_if rfl (fun h => ?_) (fun h => ?_) <;> try (exfalso; omega))))
          all_goals first
            | (exfalso; omega)
            | (refine Shift.to ⟨_, ?_, k + 1, b4, z, rfl, by omega, hf, hz, rfl⟩ ⟨rfl, rfl, rfl, ⟨rfl, rfl, rfl, rfl, rfl, trivial⟩, Own.subi [1] (by decide) rfl rfl⟩
               omega)
      · rw [findK_end (k := k) (by omega)] at hf
        repeat' (first | (refine O_ef rfl (Ef_storew WideF.wide rfl rfl rfl rfl hz ?_)) | refine O_nil ?_ | refine A_seq ?_ | refine A_region ?_ | refine A_ret ?_ | (show opsA _ _ _ _ _ _ _; first | refine O_ev WideF.wide rfl (Ev_pure rfl) rfl rfl ?_ | (show opsA _ _ _ _ (⟨_, .build _ _, _, _, _, _⟩ :: _) _ _; refine O_ev WideF.wide rfl (Ev_build (vs := []) trivial rfl) rfl rfl ?_)) | (show wpA _ _ _ (.exit _) _ _ _ _; refine A_exit rfl ?_) | (show wpA _ _ _ (.cond _ _ _) _ _ _ _; (refine A_if rfl (fun h => ?_) (fun h => ?_) <;> try (exfalso; omega))))
        all_goals first
          | (exfalso; omega)
          | exact End_e (RetCT rfl rfl (i := 0) rfl rfl rfl) ⟨.inl ⟨hf, rfl⟩, rfl, rfl⟩
end Go.Proofs.Ytlcoebomgaodgaa
