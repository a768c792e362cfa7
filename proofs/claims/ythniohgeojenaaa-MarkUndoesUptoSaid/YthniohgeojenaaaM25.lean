/-
  mark.Delete.
-/
import Derived.Test.YthniohgeojenaaaM22
import Derived.Test.YthniohgeojenaaaA16
namespace Go.Proofs.Ythniohgeojenaaa
open Go
set_option linter.unusedVariables false
set_option linter.unusedSimpArgs false
def insD (x : Dele) : List Dele → List Dele
  | [] => [x]
  | d :: r => if d.rev < x.rev then d :: insD x r else x :: d :: r
theorem insD_at {x : Dele} : ∀ {l : List Dele} {i : Nat}, Spot (l.map Dele.rev) x.rev i → insD x l = l.take i ++ x :: l.drop i
  | [], i, h => by simp [insD]
  | d :: r, 0, h => by
    have h1 := h.hi 0 d.rev (Nat.le_refl _) (by simp)
    rw [insD, if_neg (by omega)]; rfl
  | d :: r, i + 1, h => by
    have h1 := h.lo 0 d.rev (by omega) (by simp)
    have hs : Spot (r.map Dele.rev) x.rev i := ⟨by have := h.le; simp at this ⊢; omega, fun j a hj ha => h.lo (j + 1) a (by omega) (by simpa using ha), fun j a hj ha => h.hi (j + 1) a (by omega) (by simpa using ha)⟩
    rw [insD, if_pos h1, insD_at hs]; rfl
/-- what Delete returns -/
def delH (q : Head) (rev move : Int) : Head × Bool × Int :=
  if rev = 0 ∨ q.ins = rev then (Head.none, false, 0)
  else if rev ∈ q.dels.map Dele.rev then (q, true, 0)
  else if 16 ≤ q.dels.length then (Head.none, false, 9)
  else (⟨q.props, q.ins, q.move, insD ⟨rev, move⟩ q.dels, q.layers⟩, true, 0)
def DeleteIs (q : Head) (rev move : Int) (v : Value) (H : Hp) (I : Own) : Prop := (∃ cs, v = .tuple [.agg cs.toArray, .bool (delH q rev move).2.1, .int .i64 (delH q rev move).2.2].toArray ∧ HeadH H cs (delH q rev move).1) ∧ I = []
theorem zHead_none (H : Hp) : HeadH H zHead Head.none := ⟨⟨none, 0, 0, none, 0, 0, none, 0, 0, rfl, HRow.nil' _ _, HRow.nil' _ _, HRow.nil' _ _⟩⟩
attribute [local irreducible] wpA opsA drJ drQ drE Ef Ev Shift Fn
set_option maxRecDepth 100000 in
set_option maxHeartbeats 2000000 in
theorem Delete_fn {H : Hp} {hcs : List Value} {q : Head} {rev move : Int} (hh : HeadH H hcs q) (hs : Inc (q.dels.map Dele.rev)) (hl : q.mass < 1073741824) :
    Fn Try.prog 29 [.agg hcs.toArray, .int .i64 rev, .int .i64 move] H [] (DeleteIs q rev move) := by
  obtain ⟨pa, pn, pc, da, dn, dc, la, ln, lc, rfl, h1, h2, h3⟩ := hh.ex
  have l2 := h2.len
  simp only [List.length_map] at l2
  have hm := hl
  unfold Head.mass at hm
  have hc := CloneHead_own hh (by omega)
  by_cases hA : rev = 0 ∨ q.ins = rev
  · have e : delH q rev move = (Head.none, false, 0) := by unfold delH; rw [if_pos hA]
    unfold DeleteIs
    rw [e]
    refine Fn_of _ _ Try.func29 rfl Try.ntmps29 rfl fun c => ?_
    repeat' (first | refine O_nil ?_ | refine A_seq ?_ | refine A_region ?_ | refine A_ret ?_ | (show opsA _ _ _ _ _ _ _; first | (refine O_split rfl rfl (fun h => ?_) (fun h => ?_) <;> try (exfalso; omega)) | refine O_ev WideF.wide rfl (Ev_pure rfl) rfl rfl ?_ | (show opsA _ _ _ _ (⟨_, .load _ _, _, _, _, _⟩ :: _) _ _; refine O_ev WideF.wide rfl (Ev_loadB1 (i := 1) rfl rfl rfl) rfl rfl ?_) | (show opsA _ _ _ _ (⟨_, .fieldAddr _ _ _, _, _, _, _⟩ :: _) _ _; refine O_ev WideF.wide rfl (Ev_fieldAddr rfl rfl rfl) rfl rfl ?_) | (show opsA _ _ _ _ (⟨_, .build _ _, _, _, _, _⟩ :: _) _ _; refine O_ev WideF.wide rfl (Ev_build (vs := []) trivial rfl) rfl rfl ?_) | (show opsA _ _ _ _ (⟨_, .alloc _, _, _, _, _⟩ :: _) _ _; (refine O_ef rfl (Ef_alloc WideF.wide rfl ?_); intro b)) | (show opsA _ _ _ _ (⟨_, .box _ _, _, _, _, _⟩ :: _) _ _; (refine O_ef rfl (Ef_boxa WideF.wide rfl rfl ?_); intro b)) | (show opsA _ _ _ _ (⟨_, .store _ _ _, _, _, _, _⟩ :: _) _ _; refine O_ef rfl (Ef_storew WideF.wide rfl rfl rfl rfl rfl ?_)) | refine O_skip WideF.wide rfl rfl rfl ?_) | (show wpA _ _ _ (.cond _ _ _) _ _ _ _; first | (refine A_if rfl (fun h => ?_) (fun h => ?_) <;> try (exfalso; omega)) | refine A_iftrue rfl ?_))
    all_goals first
      | (exfalso; omega)
      | ((first | (refine End_e (RetT3 rfl rfl (i := 0) rfl rfl rfl rfl) ?_) | (refine End_e (RetT3 rfl rfl (i := 1) rfl rfl rfl rfl) ?_)); exact ⟨⟨_, rfl, zHead_none _⟩, rfl⟩)
  · obtain ⟨hA1, hA2⟩ := not_or.1 hA
    have hbs : ∀ Hx a n c, n = q.dels.length → Fn Try.prog 62 [.slice a n c, .int .i64 rev, .func (.func 63) #[] #[]] Hx [.row (.slice a n c) 2 (q.dels.map drow)] fun v H' I' => (∃ i : Nat, Spot (q.dels.map Dele.rev) rev i ∧ v = .tuple [.int .i64 i, .bool (decide (rev ∈ (q.dels.map Dele.rev)))].toArray) ∧ H' = Hx ∧ I' = [.row (.slice a n c) 2 (q.dels.map drow)] := fun Hx a n c hn =>
      Fn.borrow (drow_one _) fun H1 _ hr => (bsDele_fn hr hs (by omega)).mono fun v H' I' h => ⟨h.1, h.2.2⟩
    have hin := fun Hx a c va vc i (hi : i ≤ q.dels.length) => insDel_fn (H := Hx) (a := a) (va := va) (cp := c) (vc := vc) (n := q.dels.length) (i := i) (css := q.dels.map drow) (nv := drow ⟨rev, move⟩) hi (drow_one _) (by intro u hu; simp [drow] at hu; rcases hu with rfl | rfl <;> rfl) (by omega)
    refine Fn_of _ _ Try.func29 rfl Try.ntmps29 rfl fun c => ?_
    repeat' (first | (refine O_ef rfl (Ef_call (I := []) WideF.wide hc ⟨rfl, trivial⟩ rfl ?_); rintro v H1 I1 hle1 ⟨rfl, pa1, pn1, pc1, da1, dn1, dc1, la1, ln1, lc1, rfl, rfl⟩; refine O_freeze (prow_one _) ?_; intro H2 hle2 r1; refine O_f1 (O_freeze (lrow_one _) ?_); intro H3 hle3 r3; refine O_rowaddr (q := 0) rfl ?_; intro d1 d2 d3 d4 d5; simp only [List.length_map] at d1; subst d1) | (refine O_f1 (O_ef rfl (Ef_call (I := [_]) WideF.wide (hbs _ _ _ _ rfl) ⟨rfl, rfl, rfl, trivial⟩ rfl ?_)); rintro v H4 I4 hle4 ⟨⟨i, hsp, rfl⟩, rfl, rfl⟩; have hil := hsp.le; simp only [List.length_map] at hil) | (refine O_f1 (O_ef rfl (Ef_call (I := [_, _]) WideF.wide (hin _ _ _ _ 1 i hil) ⟨rfl, rfl, rfl, trivial⟩ rfl ?_)); rintro v H5 I5 hle5 ⟨rfl, a', c', rfl, rfl⟩) | refine O_nil ?_ | refine A_seq ?_ | refine A_region ?_ | refine A_skip ?_ | refine A_ret ?_ | refine A_block ?_ | (show opsA _ _ _ _ _ _ _; first | (refine O_split rfl rfl (fun h => ?_) (fun h => ?_) <;> try (exfalso; omega)) | refine O_ev WideF.wide rfl (Ev_pure rfl) rfl rfl ?_ | (show opsA _ _ _ _ (⟨_, .load _ _, _, _, _, _⟩ :: _) _ _; first | refine O_ev WideF.wide rfl (Ev_loadB1 (i := 0) rfl rfl rfl) rfl rfl ?_ | refine O_ev WideF.wide rfl (Ev_loadB1 (i := 1) rfl rfl rfl) rfl rfl ?_ | refine O_ev WideF.wide rfl (Ev_loadB (i := 0) rfl rfl rfl) rfl rfl ?_ | refine O_ev WideF.wide rfl (Ev_loadB (i := 1) rfl rfl rfl) rfl rfl ?_) | (show opsA _ _ _ _ (⟨_, .fieldAddr _ _ _, _, _, _, _⟩ :: _) _ _; refine O_ev WideF.wide rfl (Ev_fieldAddr rfl rfl rfl) rfl rfl ?_) | (show opsA _ _ _ _ (⟨_, .call _, _, _, _, _⟩ :: _) _ _; refine O_ev WideF.wide rfl (Ev_llen rfl) rfl rfl ?_) | (show opsA _ _ _ _ (⟨_, .buildSlice _ _ _, _, _, _, _⟩ :: _) _ _; (refine O_ef rfl (Ef_build1a WideF.wide rfl rfl rfl rfl rfl ?_); intro b)) | (show opsA _ _ _ _ (⟨_, .build _ _, _, _, _, _⟩ :: _) _ _; first | refine O_ev WideF.wide rfl (Ev_build (vs := [(_, _), (_, _)]) ⟨rfl, rfl, rfl, rfl, trivial⟩ rfl) rfl rfl ?_ | refine O_ev WideF.wide rfl (Ev_build (vs := []) trivial rfl) rfl rfl ?_) | (show opsA _ _ _ _ (⟨_, .alloc _, _, _, _, _⟩ :: _) _ _; (refine O_ef rfl (Ef_alloc WideF.wide rfl ?_); intro b)) | (show opsA _ _ _ _ (⟨_, .box _ _, _, _, _, _⟩ :: _) _ _; (refine O_ef rfl (Ef_boxa WideF.wide rfl rfl ?_); intro b)) | (show opsA _ _ _ _ (⟨_, .store _ _ _, _, _, _, _⟩ :: _) _ _; first | refine O_ef rfl (Ef_storew WideF.wide rfl rfl rfl rfl rfl ?_) | refine O_f1 (O_ef rfl (Ef_storew WideF.wide rfl rfl rfl rfl rfl ?_)) | refine O_f1 (O_ef rfl (Ef_store1 WideF.wide rfl rfl rfl rfl rfl ?_)))) | (show wpA _ _ _ (.cond _ _ _) _ _ _ _; (refine A_if rfl (fun h => ?_) (fun h => ?_) <;> try (exfalso; omega))))
    · have hmem : rev ∈ q.dels.map Dele.rev := by assumption
      have e : delH q rev move = (q, true, 0) := by unfold delH; rw [if_neg hA, if_pos hmem]
      unfold DeleteIs
      rw [e]
      refine End_s (RetT3 rfl rfl (i := 0) rfl rfl rfl rfl) ?_
      refine Shift.lek ⟨53, [], _, [.row (.slice da1 q.dels.length dc1) 2 (q.dels.map drow)], [], []⟩ ⟨rfl, rfl, rfl, trivial, Own.subi [1] (by decide) rfl rfl⟩ ?_
      exact Shift_freeze (drow_one _) fun H6 hle6 r2 => Shift.pure ⟨rfl, ⟨_, rfl, ⟨⟨_, _, _, _, _, _, _, _, _, rfl, r1.mono (hle3.trans hle6), r2, r3.mono hle6⟩⟩⟩, rfl⟩
    · have hno : ¬ rev ∈ q.dels.map Dele.rev := by assumption
      have e : delH q rev move = (Head.none, false, 9) := by unfold delH; rw [if_neg hA, if_neg hno, if_pos (by omega)]
      unfold DeleteIs
      rw [e]
      refine End_e (RetT3 rfl rfl (i := 0) rfl rfl rfl rfl) ?_
      exact ⟨⟨_, rfl, zHead_none _⟩, rfl⟩
    · have hno : ¬ rev ∈ q.dels.map Dele.rev := by assumption
      have e : delH q rev move = (⟨q.props, q.ins, q.move, insD ⟨rev, move⟩ q.dels, q.layers⟩, true, 0) := by unfold delH; rw [if_neg hA, if_neg hno, if_neg (by omega)]
      have ei : (q.dels.map drow).take i ++ drow ⟨rev, move⟩ :: (q.dels.map drow).drop i = (insD ⟨rev, move⟩ q.dels).map drow := by rw [insD_at hsp]; simp
      unfold DeleteIs
      rw [e, ei]
      refine End_s (RetT3 rfl rfl (i := 0) rfl rfl rfl rfl) ?_
      refine Shift.lek ⟨53, [], _, [.row (.slice a' (q.dels.length + 1) c') 2 ((insD ⟨rev, move⟩ q.dels).map drow)], [], []⟩ ⟨rfl, rfl, rfl, trivial, Own.subi [1] (by decide) rfl rfl⟩ ?_
      exact Shift_freeze (drow_one _) fun H6 hle6 r2 => Shift.pure ⟨rfl, ⟨_, rfl, ⟨⟨_, _, _, _, _, _, _, _, _, rfl, r1.mono (hle3.trans hle6), r2, r3.mono hle6⟩⟩⟩, rfl⟩
end Go.Proofs.Ythniohgeojenaaa
