/-
  The law's example and known.
-/
import Derived.Test.YtlcoebomgaodgaaQ10
namespace Go.Proofs.Ytlcoebomgaodgaa
open Go
set_option linter.unusedVariables false
set_option linter.unusedSimpArgs false
theorem valid_ascii : ∀ l : List UInt8, (∀ b ∈ l, b.toNat < 128) → valid l
  | [], _ => valid_nil
  | c :: r, h => by
    have hc := h c (by simp)
    have hb : bat (c :: r) 0 = (c.toNat : Int) := rfl
    have ht : tailSize (bat (c :: r) 0) = 1 := by rw [hb]; exact tailSize_lt (by omega)
    have he : enc (c :: r) 0 = 1 := by unfold enc; rw [ht, hb]; simp; omega
    rw [valid_step (by simp) (by rw [he]; decide), he]
    exact valid_ascii r fun b hb => h b (List.mem_cons_of_mem _ hb)
def ann : List UInt8 := [65, 110, 110]
def bob : List UInt8 := [66, 111, 98]
def exL : List Rev := [⟨2, ann, 10⟩, ⟨5, bob, 7⟩, ⟨9, ann, 3⟩]
theorem v_ann : valid ann := valid_ascii _ (by decide)
theorem v_bob : valid bob := valid_ascii _ (by decide)
theorem chk_ann {i t : Int} (h1 : 1 ≤ i ∧ i ≤ 1073741824) (h2 : 0 ≤ t ∧ t ≤ 1099511627776) : chkRev ⟨i, ann, t⟩ = 0 := by
  unfold chkRev
  rw [if_neg (by simp only; omega), if_neg (by simp [ann]), if_neg (by simp [ann]), if_neg (fun h => h v_ann), if_neg (by simp only; omega)]
theorem chk_bob {i t : Int} (h1 : 1 ≤ i ∧ i ≤ 1073741824) (h2 : 0 ≤ t ∧ t ≤ 1099511627776) : chkRev ⟨i, bob, t⟩ = 0 := by
  unfold chkRev
  rw [if_neg (by simp only; omega), if_neg (by simp [bob]), if_neg (by simp [bob]), if_neg (fun h => h v_bob), if_neg (by simp only; omega)]
theorem chk_ex : chk exL = 0 := chk_zero.2 ⟨by decide, by
  intro r hr
  simp [exL] at hr
  rcases hr with rfl | rfl | rfl
  · exact chk_ann (by decide) (by decide)
  · exact chk_bob (by decide) (by decide)
  · exact chk_ann (by decide) (by decide), by decide⟩
theorem chk_ex2 : chk (exL.take 2) = 0 := chk_zero.2 ⟨by decide, by
  intro r hr
  simp [exL] at hr
  rcases hr with rfl | rfl
  · exact chk_ann (by decide) (by decide)
  · exact chk_bob (by decide) (by decide), by decide⟩
theorem chk_b8 : chk [⟨5, bob, 8⟩] = 0 := chk_zero.2 ⟨by decide, by
  intro r hr
  simp at hr
  subst hr
  exact chk_bob (by decide) (by decide), by decide⟩
theorem fresh_ex : freshE exL = (10, 0) := by
  unfold freshE
  rw [if_neg (by rw [chk_ex]; decide), if_neg (by decide), if_neg (by decide)]
  rfl
theorem isort_ex : isort exL = [⟨9, ann, 3⟩, ⟨5, bob, 7⟩, ⟨2, ann, 10⟩] := by decide
theorem cmps_of {l m : List Int} (h : Inc m) (hm : ∀ x, x ∈ m ↔ x ∈ l) : cmps l = m := ext_inc (cmps_inc l) h fun x => by rw [cmps_mem, hm]
theorem sel_ex1 : cmps (selIds exL ⟨[ann], 5, 0, []⟩) = [2] := cmps_of (by decide) (by
  have : selIds exL ⟨[ann], 5, 0, []⟩ = [2] := by decide
  intro x; rw [this])
theorem sel_ex2 : cmps (selIds exL ⟨[], 0, 7, []⟩) = [5, 9] := cmps_of (by decide) (by
  have : selIds exL ⟨[], 0, 7, []⟩ = [5, 9] := by decide
  intro x; rw [this])
theorem merge_ex {out : List Rev} {e : Int} (h : MergeR (exL.take 2) [⟨5, bob, 8⟩] out e) : e = 23 := by
  rcases h with ⟨h, _⟩ | ⟨_, h, _⟩ | ⟨_, _, _, h, _⟩ | ⟨_, _, w, hw, _⟩
  · exact absurd chk_ex2 h
  · exact absurd chk_b8 h
  · exact h
  · exact absurd ⟨⟨5, bob, 7⟩, by decide, ⟨5, bob, 8⟩, by decide, rfl, by decide⟩ hw.no
attribute [local irreducible] wpA opsA drJ drQ drE Ef Ev Shift Fn
set_option maxRecDepth 100000 in
theorem example_fn {H : Hp} : Fn Try.prog 37 [] H [] (RevsIs exL) := by
  refine Fn_of _ _ Try.func37 rfl Try.ntmps37 rfl fun c => ?_
  repeat' (first | (refine O_ef rfl (Ef_buildn WideF.wide (k := 3) (xs := [_, _, _]) (vs := [_, _, _]) rfl ⟨rfl, rfl, rfl, trivial⟩ rfl rfl rfl rfl rfl rfl ?_); intro bb) | refine O_nil ?_ | refine A_seq ?_ | refine A_region ?_ | refine A_ret ?_ | (show opsA _ _ _ _ _ _ _; first | refine O_ev WideF.wide rfl (Ev_pure rfl) rfl rfl ?_ | (show opsA _ _ _ _ (⟨_, .build _ _, _, _, _, _⟩ :: _) _ _; refine O_ev WideF.wide rfl (Ev_build (vs := [(_, _), (_, _), (_, _)]) ⟨rfl, rfl, rfl, rfl, rfl, rfl, trivial⟩ rfl) rfl rfl ?_)))
  exact End_row (Ret1 rfl rfl) (rrow_one exL) fun H' hle hr => ⟨⟨_, _, _, rfl, hr⟩, rfl⟩
theorem RevsIs.at {l : List Rev} {k : Nat} (hl : l.length = k) {v : Value} {H : Hp} {I : Own} (h : RevsIs l v H I) : (∃ a c, v = .slice a k c ∧ HRow H a k c 3 (l.map rrow) ∧ k ≤ c) ∧ I = [] := by
  obtain ⟨⟨a, n, c, hv, hr⟩, hI⟩ := h
  have hn : n = k := by have := hr.len; rw [List.length_map] at this; omega
  subst hn
  exact ⟨⟨a, c, hv, hr, hr.cap⟩, hI⟩
set_option maxRecDepth 100000 in
set_option maxHeartbeats 4000000 in
theorem known_fn {H : Hp} : Fn Try.prog 13 [] H [] fun v _ I => v = .bool true ∧ I = [] := by
  have hex := fun Hx => (example_fn (H := Hx)).mono fun v H' I' h => RevsIs.at (k := 3) rfl h
  have hfr := fun Hx a c (hr : HRow Hx a 3 c 3 (exL.map rrow)) => Fresh_fn hr
  unfold freshV at hfr
  rw [fresh_ex] at hfr
  have hs1 := fun Hx a c b1 (hr : HRow Hx a 3 c 3 (exL.map rrow)) (h1 : HRow Hx (some ⟨b1, 0, none⟩) 1 1 1 [srow ann]) => Select_fn (cs := [.slice (some ⟨b1, 0, none⟩) 1 1, .int .i64 5, .int .i64 0, .slice none 0 0]) (f := ⟨[ann], 5, 0, []⟩) hr ⟨_, _, _, _, _, _, rfl, h1, HRow.nil' _ 1, by decide, by decide⟩ (by decide)
  rw [sel_ex1] at hs1
  have hs2 := fun Hx a c (hr : HRow Hx a 3 c 3 (exL.map rrow)) => Reject_fn (cs := [.slice none 0 0, .int .i64 0, .int .i64 7, .slice none 0 0]) (f := ⟨[], 0, 7, []⟩) hr ⟨_, _, _, _, _, _, rfl, HRow.nil' _ 1, HRow.nil' _ 1, by decide, by decide⟩ (by decide)
  rw [sel_ex2] at hs2
  have hch := fun Hx a c (hr : HRow Hx a 3 c 3 (exL.map rrow)) => (Chronological_fn stable19 hr (by decide) (by decide)).mono fun v H' I' h => RevsIs.at (k := 3) (by rw [isort_len]; rfl) h
  have hme := fun Hx a c b (hr : HRow Hx a 3 c 3 (exL.map rrow)) (h2 : HRow Hx (some ⟨b, 0, none⟩) 1 1 3 ([⟨5, bob, 8⟩].map rrow)) => Merge_fn (l := exL.take 2) ((hr.upto (j := 2) (by decide)).cong (List.map_take)) h2
  dsimp only at hfr
  refine Fn_of _ _ Try.func13 rfl Try.ntmps13 rfl fun c => ?_
  repeat' (first | (refine O_ef rfl (Ef_callp WideF.wide (hfr _ _ _ (by assumption)) ⟨rfl, trivial⟩ rfl ?_)) | (refine O_ef rfl (Ef_call (I := []) WideF.wide (hex _) trivial rfl ?_); rintro v H1 I1 hle1 ⟨⟨a1, c1, rfl, r1, hc1⟩, rfl⟩) | refine O_nil ?_ | refine A_seq ?_ | refine A_region ?_ | (show opsA _ _ _ _ _ _ _; first | refine O_ev WideF.wide rfl (Ev_pure rfl) rfl rfl ?_ | (show opsA _ _ _ _ (⟨_, .buildSlice _ _ _, _, _, _, _⟩ :: _) _ _; (refine O_ef rfl (Ef_build11 WideF.wide rfl rfl rfl ?_); intro b)) | (show opsA _ _ _ _ (⟨_, .build _ _, _, _, _, _⟩ :: _) _ _; refine O_ev WideF.wide rfl (Ev_build (vs := [(_, _), (_, _)]) ⟨rfl, rfl, rfl, rfl, trivial⟩ rfl) rfl rfl ?_)))
  repeat' (first | (refine O_freeze (css := [srow ann]) (srow_one [ann]) ?_; intro H3 hle3 hr3; refine O_ef rfl (Ef_call (I := []) WideF.wide (hs1 _ _ _ _ (r1.mono hle3) hr3) ⟨rfl, rfl, trivial⟩ rfl ?_); rintro v H4 I4 hle4 ⟨⟨a4, n4, c4, rfl, r4⟩, rfl⟩) | (refine O_ef rfl (Ef_call (I := []) WideF.wide (hex _) trivial rfl ?_); rintro v H5 I5 hle5 ⟨⟨a5, c5, rfl, r5, hc5⟩, rfl⟩) | refine O_nil ?_ | refine A_seq ?_ | refine A_region ?_ | (show opsA _ _ _ _ _ _ _; refine O_ev WideF.wide rfl (Ev_pure rfl) rfl rfl ?_))
  repeat' (first | (refine O_ef rfl (Ef_call (I := []) WideF.wide (hch _ _ _ r5) ⟨rfl, trivial⟩ rfl ?_); rintro v H6 I6 hle6 ⟨⟨a6, c6, rfl, r6, hc6⟩, rfl⟩) | (refine O_ef rfl (Ef_call (I := []) WideF.wide (hex _) trivial rfl ?_); rintro v H7 I7 hle7 ⟨⟨a7, c7, rfl, r7, hc7⟩, rfl⟩) | refine O_nil ?_ | refine A_seq ?_ | refine A_region ?_ | (show opsA _ _ _ _ _ _ _; first | refine O_ev WideF.wide rfl (Ev_pure rfl) rfl rfl ?_ | (show opsA _ _ _ _ (⟨_, .build _ _, _, _, _, _⟩ :: _) _ _; refine O_ev WideF.wide rfl (Ev_build (vs := [(_, _)]) ⟨rfl, rfl, trivial⟩ rfl) rfl rfl ?_)))
  repeat' (first | (refine O_ef rfl (Ef_call (I := []) WideF.wide (hs2 _ _ _ r7) ⟨rfl, rfl, trivial⟩ rfl ?_); rintro v H8 I8 hle8 ⟨⟨aa, an, ac, ra, rn, rc, rfl, q1, q2⟩, rfl⟩) | (refine O_ef rfl (Ef_call (I := []) WideF.wide (hex _) trivial rfl ?_); rintro v H9 I9 hle9 ⟨⟨a9, c9, rfl, r9, hc9⟩, rfl⟩) | (refine O_ev WideF.wide rfl (Ev_lsliceh rfl rfl (by omega) (by omega)) rfl rfl ?_) | (refine O_freeze (css := [rrow ⟨5, bob, 8⟩]) (rrow_one [⟨5, bob, 8⟩]) ?_; intro H10 hle10 hr10; refine O_ef rfl (Ef_call (I := []) WideF.wide (hme _ _ _ _ (r9.mono hle10) hr10) ⟨rfl, rfl, trivial⟩ rfl ?_); rintro v H11 I11 hle11 ⟨out, e, hR, ⟨a11, n11, c11, rfl, r11⟩, rfl⟩; obtain rfl := merge_ex hR) | refine O_nil ?_ | refine A_seq ?_ | refine A_region ?_ | (show opsA _ _ _ _ _ _ _; first | (refine O_split rfl rfl (fun h => ?_) (fun h => ?_) <;> try (exfalso; omega)) | refine O_ev WideF.wide rfl (Ev_pure rfl) rfl rfl ?_ | (show opsA _ _ _ _ (⟨_, .buildSlice _ _ _, _, _, _, _⟩ :: _) _ _; first | (refine O_ef rfl (Ef_build1a WideF.wide rfl rfl rfl rfl rfl ?_); intro b) | (refine O_ef rfl (Ef_build11 WideF.wide rfl rfl rfl ?_); intro b)) | (show opsA _ _ _ _ (⟨_, .build _ _, _, _, _, _⟩ :: _) _ _; refine O_ev WideF.wide rfl (Ev_build (vs := [(_, _), (_, _), (_, _)]) ⟨rfl, rfl, rfl, rfl, rfl, rfl, trivial⟩ rfl) rfl rfl ?_) | (show opsA _ _ _ _ (⟨_, .alloc _, _, _, _, _⟩ :: _) _ _; (refine O_ef rfl (Ef_alloc WideF.wide rfl ?_); intro b)) | (show opsA _ _ _ _ (⟨_, .store _ _ _, _, _, _, _⟩ :: _) _ _; refine O_ef rfl (Ef_storew WideF.wide rfl rfl rfl rfl rfl ?_))))
  rw [isort_ex] at r6
  have l6 := (((hle7.trans hle8).trans hle9).trans hle10).trans hle11
  have l4 := (hle5.trans hle6).trans l6
  have l8 := (hle9.trans hle10).trans hle11
  have r6 := r6.mono l6
  have r4 := r4.mono l4
  have q1 := q1.mono l8
  have q2 := q2.mono l8
  have n4e : n4 = 1 := by have := r4.len; simpa using this.symm
  have rne : rn = 2 := by have := q2.len; simpa using this.symm
  have ane : an = 0 := by have := q1.len; simpa using this.symm
  subst n4e rne ane
  obtain ⟨b6, o6, x6, e6, hx6, hc6'⟩ := r6.atm 0 (by decide)
  cases hx6
  cases e6
  unfold rrow at hc6'
  have hd := fun Hx (hl : HLe H11 Hx) b (hb : HRow Hx (some ⟨b, 0, none⟩) 2 2 1 ([5, 9].map irow)) => sameDecision_fn (p' := []) (q1.mono hl) (q2.mono hl) (HRow.nil' Hx 1) hb (by decide) (by decide)
  have hsm := fun Hx (hl : HLe H11 Hx) b (hb : HRow Hx (some ⟨b, 0, none⟩) 1 1 1 ([2].map irow)) => same_fn (r4.mono hl) hb (by decide)
  rw [show decide (([] : List Int) = []) = true from rfl, show decide (([5, 9] : List Int) = [5, 9]) = true from rfl] at hd
  rw [show decide (([2] : List Int) = [2]) = true from rfl] at hsm
  repeat' (first | (refine O_ev WideF.wide rfl (Ev_eqis rfl rfl) rfl rfl ?_) | (refine O_freeze (css := [irow 2]) (irow_one [2]) ?_; intro H12 hle12 hr12; refine O_ef rfl (Ef_callp WideF.wide (hsm _ hle12 _ hr12) ⟨rfl, rfl, trivial⟩ rfl ?_)) | (refine O_ev WideF.wide rfl (Ev_loadH1 rfl (hle12 _ _ _ (hc6' 0 _ rfl))) rfl rfl ?_) | (refine O_ef rfl (Ef_buildn WideF.wide (k := 1) (xs := [_, _]) (vs := [_, _]) rfl ⟨rfl, rfl, trivial⟩ rfl rfl rfl rfl rfl rfl ?_); intro bb) | (refine O_freeze (css := [irow 5, irow 9]) (irow_one [5, 9]) ?_; intro H13 hle13 hr13; refine O_ef rfl (Ef_callp WideF.wide (hd _ (hle12.trans hle13) _ hr13) ⟨rfl, rfl, trivial⟩ rfl ?_)) | refine O_nil ?_ | refine A_ret ?_ | (show opsA _ _ _ _ _ _ _; first | refine O_ev WideF.wide rfl (Ev_pure rfl) rfl rfl ?_ | (show opsA _ _ _ _ (⟨_, .load _ _, _, _, _, _⟩ :: _) _ _; refine O_ev WideF.wide rfl (Ev_loadB (i := 0) rfl rfl rfl) rfl rfl ?_) | (show opsA _ _ _ _ (⟨_, .indexAddr _ _ _, _, _, _, _⟩ :: _) _ _; refine O_ev WideF.wide rfl (Ev_indexAddr rfl rfl (by omega) (by omega)) rfl rfl ?_) | (show opsA _ _ _ _ (⟨_, .fieldAddr _ _ _, _, _, _, _⟩ :: _) _ _; refine O_ev WideF.wide rfl (Ev_fieldAddr rfl rfl rfl) rfl rfl ?_) | (show opsA _ _ _ _ (⟨_, .call _, _, _, _, _⟩ :: _) _ _; refine O_ev WideF.wide rfl (Ev_llen rfl) rfl rfl ?_) | (show opsA _ _ _ _ (⟨_, .build _ _, _, _, _, _⟩ :: _) _ _; refine O_ev WideF.wide rfl (Ev_build (vs := [(_, _)]) ⟨rfl, rfl, trivial⟩ rfl) rfl rfl ?_)))
  exact End_e (Ret1 rfl rfl) ⟨rfl, rfl⟩
end Go.Proofs.Ytlcoebomgaodgaa
