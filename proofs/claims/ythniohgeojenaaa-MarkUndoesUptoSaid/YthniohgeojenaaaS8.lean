/-
  MarkUndoes: the walk.
-/
import Derived.Test.YthniohgeojenaaaS7
import Derived.Test.YthniohgeojenaaaM28
import Derived.Test.YthniohgeojenaaaM20
import Derived.Test.YthniohgeojenaaaN2
namespace Go.Proofs.Ythniohgeojenaaa
open Go
set_option linter.unusedVariables false
set_option linter.unusedSimpArgs false
attribute [local irreducible] wpA opsA drJ drQ drE Ef Ev Shift Fn
set_option maxRecDepth 100000 in
set_option maxHeartbeats 8000000 in
theorem MarkUndoes_fn {H : Hp} {hcs : List Value} {q : Head} {rev : Int} {p : Sett} (hh : HeadH H hcs q) (hl : q.mass < 1073741824) :
    Fn Try.prog 12 [.agg hcs.toArray, .int .i64 rev, .agg (srow p).toArray] H [] fun v _ I' => v = .bool true ∧ I' = [] := by
  obtain ⟨pk, pv, clear⟩ := p
  obtain ⟨pa, pn, pc, da, dn, dc, la, ln, lc, rfl, h1, h2, h3⟩ := hh.ex
  have hord := ordered_fn hh hl
  refine Fn_of _ _ Try.func12 rfl Try.ntmps12 rfl fun c => ?_
  refine A_seq ?_
  refine A_cutu (fun s => ∃ b3 b5, s = ⟨115, [(1, .int .i64 rev), (3, ptr b3), (5, ptr b5), (6, .bool false)], H, [.box b3 [.slice pa pn pc, .int .i64 q.ins, .int .i64 q.move, .slice da dn dc, .slice la ln lc], .box b5 [.int .i64 pk, .int .i64 pv, .bool clear]], [], []⟩) ?_ ?_
  · unfold srow
    repeat' (first | refine O_nil ?_ | refine A_region ?_ | (show opsA _ _ _ _ _ _ _; first | refine O_ev WideF.wide rfl (Ev_pure rfl) rfl rfl ?_ | (show opsA _ _ _ _ (⟨_, .box _ _, _, _, _, _⟩ :: _) _ _; (refine O_ef rfl (Ef_boxa WideF.wide rfl rfl ?_); intro b))))
    exact Shift.to ⟨_, _, rfl⟩ ⟨rfl, rfl, rfl, ⟨rfl, rfl, rfl, rfl, trivial⟩, Own.subi [1, 0] (by decide) rfl rfl⟩
  rintro s ⟨b3, b5, rfl⟩
  refine A_seq ?_
  refine A_cutu (fun s => ∃ (H1 : Hp) (cs1 : List Value), HeadH H1 cs1 (ordH q) ∧ s = ⟨115, [(1, .int .i64 rev), (3, ptr b3), (5, ptr b5), (6, .bool false)], H1, [.box b3 cs1, .box b5 [.int .i64 pk, .int .i64 pv, .bool clear]], [], []⟩) ?_ ?_
  · repeat' (first | (refine O_ef rfl (Ef_call (I := []) WideF.wide hord ⟨rfl, trivial⟩ rfl ?_); rintro v H1 I1 hle1 ⟨⟨cs1, rfl, hcs1⟩, rfl⟩; obtain ⟨pa1, pn1, pc1, da1, dn1, dc1, la1, ln1, lc1, rfl, h11, h21, h31⟩ := hcs1.ex) | refine O_nil ?_ | refine A_region ?_ | (show opsA _ _ _ _ _ _ _; first | (show opsA _ _ _ _ (⟨_, .load _ _, _, _, _, _⟩ :: _) _ _; refine O_ev WideF.wide rfl (Ev_loadB (i := 0) rfl rfl rfl) rfl rfl ?_) | (show opsA _ _ _ _ (⟨_, .store _ _ _, _, _, _, _⟩ :: _) _ _; refine O_ef rfl (Ef_storew WideF.wide rfl rfl rfl rfl rfl ?_))))
    exact Shift.to ⟨_, _, hcs1, rfl⟩ ⟨rfl, rfl, rfl, ⟨rfl, rfl, rfl, rfl, trivial⟩, Own.subi [0, 1] (by decide) rfl rfl⟩
  rintro s ⟨H1, cs1, hcs1, rfl⟩
  have hgood := ordH_good q
  have hmass := ordH_mass q
  generalize ordH q = o at *
  obtain ⟨pa1, pn1, pc1, da1, dn1, dc1, la1, ln1, lc1, rfl, h11, h21, h31⟩ := hcs1.ex
  have l2 := h21.len
  have l3 := h31.len
  simp only [List.length_map] at l2 l3
  have hm := hmass
  unfold Head.mass at hm
  have hr0 := revs0_len o
  have hrl : (revsL o).length ≤ 241 := by unfold revsL; simp; omega
  have hsl := sortI_len (revsL o)
  have hlrv := fun Hx (hx : HLe H1 Hx) => lawRevs_fn (hcs1.mono hx) (by omega)
  have hhas := fun Hx (ra : Option Addr) (rn rc : Nat) (h : HRow Hx ra rn rc 1 ((sortI (revsL o)).map irow)) => lhas_fn (x := rev) h (by have := h.len; simp at this; omega)
  rw [show decide (rev ∈ sortI (revsL o)) = decide (rev ∈ revsL o) from decide_eq_decide.2 sortI_mem] at hhas
  have hset := fun Hx (hx : HLe H1 Hx) => Set_fn (rev := rev) (pk := pk) (pv := pv) (clear := clear) (hcs1.mono hx) hgood (by omega)
  by_cases hA : rev < 1 ∨ 1073741824 < rev
  · repeat' (first | (have hle12 := hle2; refine O_ef rfl (Ef_call (I := []) WideF.wide known_fn trivial rfl ?_); rintro v H3 I3 hle3 ⟨rfl, rfl⟩) | (refine O_ef rfl (Ef_call (I := []) WideF.wide known_fn trivial rfl ?_); rintro v H2 I2 hle2 ⟨rfl, rfl⟩) | refine O_nil ?_ | refine A_seq ?_ | refine A_region ?_ | refine A_ret ?_ | (show opsA _ _ _ _ _ _ _; first | (refine O_split rfl rfl (fun h => ?_) (fun h => ?_) <;> try (exfalso; omega)) | refine O_ev WideF.wide rfl (Ev_pure rfl) rfl rfl ?_ | (show opsA _ _ _ _ (⟨_, .unOp _ _ _, _, _, _, _⟩ :: _) _ _; refine O_ev WideF.wide rfl (Ev_notb rfl) rfl rfl ?_) | refine O_skip WideF.wide rfl rfl rfl ?_) | (show wpA _ _ _ (.cond _ _ _) _ _ _ _; refine A_iftrue rfl ?_))
    all_goals first
      | (exfalso; omega)
      | exact End_e (Ret1 rfl rfl) ⟨rfl, rfl⟩
  by_cases hr : rev ∈ revsL o
  · rw [decide_eq_true hr] at hhas
    repeat' (first | (have hle12 := hle2; refine O_ef rfl (Ef_call (I := []) WideF.wide known_fn trivial rfl ?_); rintro v H3 I3 hle3 ⟨rfl, rfl⟩) | (refine O_ef rfl (Ef_call (I := []) WideF.wide known_fn trivial rfl ?_); rintro v H2 I2 hle2 ⟨rfl, rfl⟩) | (refine O_ef rfl (Ef_call (I := []) WideF.wide (hlrv _ hle2) ⟨rfl, trivial⟩ rfl ?_); rintro v H4 I4 hle4 ⟨⟨ra, rn, rc, rfl, hr4⟩, rfl⟩) | (refine O_ef rfl (Ef_callp WideF.wide (hhas _ _ _ _ hr4) ⟨rfl, rfl, trivial⟩ rfl ?_)) | refine O_nil ?_ | refine A_seq ?_ | refine A_region ?_ | refine A_ret ?_ | (show opsA _ _ _ _ _ _ _; first | (refine O_split rfl rfl (fun h => ?_) (fun h => ?_) <;> try (exfalso; omega)) | refine O_ev WideF.wide rfl (Ev_pure rfl) rfl rfl ?_ | (show opsA _ _ _ _ (⟨_, .load _ _, _, _, _, _⟩ :: _) _ _; refine O_ev WideF.wide rfl (Ev_loadB (i := 0) rfl rfl rfl) rfl rfl ?_) | (show opsA _ _ _ _ (⟨_, .unOp _ _ _, _, _, _, _⟩ :: _) _ _; refine O_ev WideF.wide rfl (Ev_notb rfl) rfl rfl ?_)) | (show wpA _ _ _ (.cond _ _ _) _ _ _ _; refine A_iftrue rfl ?_))
    all_goals first
      | (exfalso; omega)
      | exact End_e (Ret1 rfl rfl) ⟨rfl, rfl⟩
  rw [decide_eq_false hr] at hhas
  repeat' (first | (refine O_ef rfl (Ef_call (I := []) WideF.wide known_fn trivial rfl ?_); rintro v H2 I2 hle2 ⟨rfl, rfl⟩) | (refine O_ef rfl (Ef_call (I := []) WideF.wide (hlrv _ hle2) ⟨rfl, trivial⟩ rfl ?_); rintro v H4 I4 hle4 ⟨⟨ra, rn, rc, rfl, hr4⟩, rfl⟩) | (refine O_ef rfl (Ef_callp WideF.wide (hhas _ _ _ _ hr4) ⟨rfl, rfl, trivial⟩ rfl ?_)) | (refine O_ef rfl (Ef_call (I := []) WideF.wide (hset _ (hle2.trans hle4)) ⟨rfl, rfl, rfl, rfl, trivial⟩ rfl ?_); rintro v H5 I5 hle5 ⟨⟨cs5, x, e, rfl, hcs5, hsp⟩, rfl⟩; obtain ⟨pa5, pn5, pc5, da5, dn5, dc5, la5, ln5, lc5, rfl, _, _, _⟩ := hcs5.ex; rcases hsp.err with rfl | ⟨rfl, hxn⟩) | refine O_nil ?_ | refine A_seq ?_ | refine A_region ?_ | refine A_skip ?_ | refine A_ret ?_ | (show opsA _ _ _ _ _ _ _; first | (refine O_split rfl rfl (fun h => ?_) (fun h => ?_) <;> try (exfalso; omega)) | refine O_ev WideF.wide rfl (Ev_pure rfl) rfl rfl ?_ | (show opsA _ _ _ _ (⟨_, .load _ _, _, _, _, _⟩ :: _) _ _; first | refine O_ev WideF.wide rfl (Ev_loadB1 (i := 1) rfl rfl rfl) rfl rfl ?_ | refine O_ev WideF.wide rfl (Ev_loadB (i := 0) rfl rfl rfl) rfl rfl ?_ | refine O_ev WideF.wide rfl (Ev_loadBs (i := 1) rfl rfl rfl rfl) rfl rfl ?_) | (show opsA _ _ _ _ (⟨_, .fieldAddr _ _ _, _, _, _, _⟩ :: _) _ _; refine O_ev WideF.wide rfl (Ev_fieldAddr rfl rfl rfl) rfl rfl ?_) | (show opsA _ _ _ _ (⟨_, .buildSlice _ _ _, _, _, _, _⟩ :: _) _ _; (refine O_ef rfl (Ef_build11 WideF.wide rfl rfl rfl ?_); intro b)) | (show opsA _ _ _ _ (⟨_, .unOp _ _ _, _, _, _, _⟩ :: _) _ _; refine O_ev WideF.wide rfl (Ev_notb rfl) rfl rfl ?_) | (show opsA _ _ _ _ (⟨_, .build _ _, _, _, _, _⟩ :: _) _ _; refine O_ev WideF.wide rfl (Ev_build (vs := [(_, _)]) ⟨rfl, rfl, trivial⟩ rfl) rfl rfl ?_) | (show opsA _ _ _ _ (⟨_, .alloc _, _, _, _, _⟩ :: _) _ _; (refine O_ef rfl (Ef_alloc WideF.wide rfl ?_); intro b)) | (show opsA _ _ _ _ (⟨_, .store _ _ _, _, _, _, _⟩ :: _) _ _; refine O_ef rfl (Ef_storew WideF.wide rfl rfl rfl rfl rfl ?_))) | (show wpA _ _ _ (.cond _ _ _) _ _ _ _; first | (refine A_if rfl (fun h => ?_) (fun h => ?_) <;> try (exfalso; omega)) | refine A_iffalse rfl ?_))
  all_goals try exact End_e (Ret1 rfl rfl) ⟨rfl, rfl⟩
  have hA2 : 1 ≤ rev ∧ rev ≤ 1073741824 := by omega
  obtain ⟨u1, u2, u3, u4, u5⟩ := undo_law hgood hsp (by omega) hr
  have hmx := hsp.mass hgood
  have hgx := hsp.good hgood
  have hd1 : ∀ Hx (hx : HLe H5 Hx) a n c, HRow Hx a n c 1 [irow rev] → Fn Try.prog 15 [_, .agg [.slice none 0 0, .slice a n c].toArray] Hx [] fun v H' I' => (∃ cs, v = .tuple [.agg cs.toArray, .bool true].toArray ∧ HeadH H' cs o) ∧ I' = [] := fun Hx hx a n c hrw => by
    have h := Decide_fn (d := ⟨[], [rev]⟩) (hcs5.mono hx) ⟨⟨none, 0, 0, a, n, c, rfl, HRow.nil' _ _, hrw⟩⟩ hgx.inc (by omega) inc0 (inc1 rev) (by show 0 < _; omega) (by show 1 < _; omega)
    unfold DecideIs at h
    rw [u1, u2] at h
    exact h
  have hd2 : ∀ Hx (hx : HLe H5 Hx) a n c, HRow Hx a n c 1 [irow rev] → Fn Try.prog 15 [_, .agg [.slice a n c, .slice none 0 0].toArray] Hx [] fun v H' I' => (∃ cs, v = .tuple [.agg cs.toArray, .bool true].toArray ∧ HeadH H' cs (decH (Dec.accB ⟨[rev], []⟩) (Dec.rejB ⟨[rev], []⟩) x)) ∧ I' = [] := fun Hx hx a n c hrw => by
    have h := Decide_fn (d := ⟨[rev], []⟩) (hcs5.mono hx) ⟨⟨a, n, c, none, 0, 0, rfl, hrw, HRow.nil' _ _⟩⟩ hgx.inc (by omega) (inc1 rev) inc0 (by show 1 < _; omega) (by show 0 < _; omega)
    unfold DecideIs at h
    rw [u3] at h
    exact h
  have hmy := decH_mass (Dec.accB ⟨[rev], []⟩) (Dec.rejB ⟨[rev], []⟩) x
  have hxl : x.layers.length ≤ x.mass := by unfold Head.mass; omega
  have hgy := decH_good (acc := Dec.accB ⟨[rev], []⟩) (rej := Dec.rejB ⟨[rev], []⟩) hgx
  generalize decH (Dec.accB ⟨[rev], []⟩) (Dec.rejB ⟨[rev], []⟩) x = y2 at *
  have hcs15 := hcs1.mono (hle2.trans (hle4.trans hle5))
  have heq := fun Hx (hx : HLe H5 Hx) cs (h : HeadH Hx cs o) => EqualHead_fn h (hcs15.mono hx) (by omega)
  simp only [decide_true] at heq
  have huse := fun Hx (hx : HLe H5 Hx) => Uses_fn (rev := rev) (hcs5.mono hx) (by omega)
  have hgt : ∀ Hx (pa : Option Addr) (pn pc : Nat), HRow Hx pa pn pc 2 (y2.props.map prow) → _ := fun Hx pa pn pc h => Get_fn (k := pk) h hgy.inc (by have := h.len; simp at this; unfold Head.mass at hmy hmx; omega)
  rw [u4] at hgt
  have hly := fun Hx cs (h : HeadH Hx cs y2) => Layers_fn (k := pk) h (by omega)
  repeat' (first | (have hx5 := hle8; refine O_freeze (css := [irow rev]) (irow_one [rev]) ?_; intro H9 hle9 hr9; refine O_ef rfl (Ef_call (I := []) WideF.wide (hd2 _ (hle6.trans (hle7.trans (hle8.trans hle9))) _ _ _ hr9) ⟨rfl, rfl, trivial⟩ rfl ?_); rintro v H10 I10 hle10 ⟨⟨cs10, rfl, hcs10⟩, rfl⟩; obtain ⟨pa10, pn10, pc10, da10, dn10, dc10, la10, ln10, lc10, rfl, hp10, _, _⟩ := hcs10.ex) | (refine O_freeze (css := [irow rev]) (irow_one [rev]) ?_; intro H6 hle6 hr6; refine O_ef rfl (Ef_call (I := []) WideF.wide (hd1 _ hle6 _ _ _ hr6) ⟨rfl, rfl, trivial⟩ rfl ?_); rintro v H7 I7 hle7 ⟨⟨cs7, rfl, hcs7⟩, rfl⟩; obtain ⟨pa7, pn7, pc7, da7, dn7, dc7, la7, ln7, lc7, rfl, _, _, _⟩ := hcs7.ex; have hle8 := HLe.refl H7) | (refine O_ef rfl (Ef_callp WideF.wide (heq _ (hle6.trans hle7) _ hcs7) ⟨rfl, rfl, trivial⟩ rfl ?_)) | (refine O_ef rfl (Ef_callp WideF.wide (hgt _ _ _ _ hp10) ⟨rfl, rfl, trivial⟩ rfl ?_)) | refine O_nil ?_ | refine A_seq ?_ | refine A_region ?_ | refine A_skip ?_ | (show opsA _ _ _ _ _ _ _; first | refine O_ev WideF.wide rfl (Ev_pure rfl) rfl rfl ?_ | (show opsA _ _ _ _ (⟨_, .load _ _, _, _, _, _⟩ :: _) _ _; first | refine O_ev WideF.wide rfl (Ev_loadB1 (i := 0) rfl rfl rfl) rfl rfl ?_ | refine O_ev WideF.wide rfl (Ev_loadB1 (i := 4) rfl rfl rfl) rfl rfl ?_ | refine O_ev WideF.wide rfl (Ev_loadB (i := 0) rfl rfl rfl) rfl rfl ?_ | refine O_ev WideF.wide rfl (Ev_loadB (i := 1) rfl rfl rfl) rfl rfl ?_ | refine O_ev WideF.wide rfl (Ev_loadB (i := 2) rfl rfl rfl) rfl rfl ?_) | (show opsA _ _ _ _ (⟨_, .fieldAddr _ _ _, _, _, _, _⟩ :: _) _ _; refine O_ev WideF.wide rfl (Ev_fieldAddr rfl rfl rfl) rfl rfl ?_) | (show opsA _ _ _ _ (⟨_, .buildSlice _ _ _, _, _, _, _⟩ :: _) _ _; (refine O_ef rfl (Ef_build11 WideF.wide rfl rfl rfl ?_); intro b)) | (show opsA _ _ _ _ (⟨_, .unOp _ _ _, _, _, _, _⟩ :: _) _ _; refine O_ev WideF.wide rfl (Ev_notb rfl) rfl rfl ?_) | (show opsA _ _ _ _ (⟨_, .build _ _, _, _, _, _⟩ :: _) _ _; refine O_ev WideF.wide rfl (Ev_build (vs := [(_, _)]) ⟨rfl, rfl, trivial⟩ rfl) rfl rfl ?_) | (show opsA _ _ _ _ (⟨_, .alloc _, _, _, _, _⟩ :: _) _ _; (refine O_ef rfl (Ef_alloc WideF.wide rfl ?_); intro b)) | (show opsA _ _ _ _ (⟨_, .store _ _ _, _, _, _, _⟩ :: _) _ _; refine O_ef rfl (Ef_storew WideF.wide rfl rfl rfl rfl rfl ?_))) | (show wpA _ _ _ (.cond _ _ _) _ _ _ _; refine A_iffalse rfl ?_))
  rcases u5 with hL | hR
  · simp only [hL] at hly
    cases clear
    · repeat' (first | (refine O_ef rfl (Ef_call (I := []) WideF.wide (hly _ _ hcs10) ⟨rfl, rfl, trivial⟩ rfl ?_); rintro v H11 I11 hle11 ⟨⟨ya, yn, yc, rfl, hy⟩, rfl⟩; have hyn := hy.len; simp only [List.length_map, List.length_nil] at hyn) | (refine O_ev WideF.wide rfl (Ev_eqbs rfl rfl) rfl rfl ?_) | refine O_nil ?_ | refine A_ret ?_ | (show opsA _ _ _ _ _ _ _; first | (refine O_split rfl rfl (fun h => ?_) (fun h => ?_) <;> try (exfalso; omega)) | refine O_ev WideF.wide rfl (Ev_pure rfl) rfl rfl ?_ | (show opsA _ _ _ _ (⟨_, .load _ _, _, _, _, _⟩ :: _) _ _; refine O_ev WideF.wide rfl (Ev_loadB1 (i := 4) rfl rfl rfl) rfl rfl ?_) | (show opsA _ _ _ _ (⟨_, .fieldAddr _ _ _, _, _, _, _⟩ :: _) _ _; refine O_ev WideF.wide rfl (Ev_fieldAddr rfl rfl rfl) rfl rfl ?_) | (show opsA _ _ _ _ (⟨_, .call _, _, _, _, _⟩ :: _) _ _; refine O_ev WideF.wide rfl (Ev_llen rfl) rfl rfl ?_) | (show opsA _ _ _ _ (⟨_, .unOp _ _ _, _, _, _, _⟩ :: _) _ _; refine O_ev WideF.wide rfl (Ev_notb rfl) rfl rfl ?_) | refine O_skip WideF.wide rfl rfl rfl ?_))
      all_goals first
        | (exfalso; omega)
        | exact End_e (Ret1 rfl rfl) ⟨by rw [decide_eq_true (show (setS pv false).val = pv from rfl)], rfl⟩
        | exact End_e (Ret1 rfl rfl) ⟨rfl, rfl⟩
    · repeat' (first | (refine O_ef rfl (Ef_call (I := []) WideF.wide (hly _ _ hcs10) ⟨rfl, rfl, trivial⟩ rfl ?_); rintro v H11 I11 hle11 ⟨⟨ya, yn, yc, rfl, hy⟩, rfl⟩; have hyn := hy.len; simp only [List.length_map, List.length_nil] at hyn) | (refine O_ev WideF.wide rfl (Ev_eqbs rfl rfl) rfl rfl ?_) | refine O_nil ?_ | refine A_ret ?_ | (show opsA _ _ _ _ _ _ _; first | (refine O_split rfl rfl (fun h => ?_) (fun h => ?_) <;> try (exfalso; omega)) | refine O_ev WideF.wide rfl (Ev_pure rfl) rfl rfl ?_ | (show opsA _ _ _ _ (⟨_, .load _ _, _, _, _, _⟩ :: _) _ _; refine O_ev WideF.wide rfl (Ev_loadB1 (i := 4) rfl rfl rfl) rfl rfl ?_) | (show opsA _ _ _ _ (⟨_, .fieldAddr _ _ _, _, _, _, _⟩ :: _) _ _; refine O_ev WideF.wide rfl (Ev_fieldAddr rfl rfl rfl) rfl rfl ?_) | (show opsA _ _ _ _ (⟨_, .call _, _, _, _, _⟩ :: _) _ _; refine O_ev WideF.wide rfl (Ev_llen rfl) rfl rfl ?_) | (show opsA _ _ _ _ (⟨_, .unOp _ _ _, _, _, _, _⟩ :: _) _ _; refine O_ev WideF.wide rfl (Ev_notb rfl) rfl rfl ?_) | refine O_skip WideF.wide rfl rfl rfl ?_))
      all_goals first
        | (exfalso; omega)
        | exact End_e (Ret1 rfl rfl) ⟨rfl, rfl⟩
  · simp only [decide_eq_false hR] at huse
    cases clear
    · repeat' (first | (refine O_ef rfl (Ef_call (I := []) WideF.wide (hly _ _ hcs10) ⟨rfl, rfl, trivial⟩ rfl ?_); rintro v H11 I11 hle11 ⟨⟨ya, yn, yc, rfl, hy⟩, rfl⟩; have hyn := hy.len; simp only [List.length_map, List.length_nil] at hyn) | (refine O_ev WideF.wide rfl (Ev_eqbs rfl rfl) rfl rfl ?_) | (refine O_ef rfl (Ef_call (I := []) WideF.wide (huse _ (hle6.trans (hle7.trans (hle8.trans (hle9.trans (hle10.trans hle11)))))) ⟨rfl, rfl, trivial⟩ rfl ?_); rintro v H12 I12 hle12 ⟨rfl, rfl⟩) | refine O_nil ?_ | refine A_ret ?_ | (show opsA _ _ _ _ _ _ _; first | (refine O_split rfl rfl (fun h => ?_) (fun h => ?_) <;> try (exfalso; omega)) | refine O_ev WideF.wide rfl (Ev_pure rfl) rfl rfl ?_ | (show opsA _ _ _ _ (⟨_, .load _ _, _, _, _, _⟩ :: _) _ _; first | refine O_ev WideF.wide rfl (Ev_loadB1 (i := 4) rfl rfl rfl) rfl rfl ?_ | refine O_ev WideF.wide rfl (Ev_loadB (i := 2) rfl rfl rfl) rfl rfl ?_) | (show opsA _ _ _ _ (⟨_, .fieldAddr _ _ _, _, _, _, _⟩ :: _) _ _; refine O_ev WideF.wide rfl (Ev_fieldAddr rfl rfl rfl) rfl rfl ?_) | (show opsA _ _ _ _ (⟨_, .call _, _, _, _, _⟩ :: _) _ _; refine O_ev WideF.wide rfl (Ev_llen rfl) rfl rfl ?_) | (show opsA _ _ _ _ (⟨_, .unOp _ _ _, _, _, _, _⟩ :: _) _ _; refine O_ev WideF.wide rfl (Ev_notb rfl) rfl rfl ?_) | refine O_skip WideF.wide rfl rfl rfl ?_))
      all_goals first
        | (exfalso; omega)
        | exact End_e (Ret1 rfl rfl) ⟨by rw [decide_eq_true (show (setS pv false).val = pv from rfl)], rfl⟩
        | exact End_e (Ret1 rfl rfl) ⟨rfl, rfl⟩
    · repeat' (first | (refine O_ef rfl (Ef_call (I := []) WideF.wide (hly _ _ hcs10) ⟨rfl, rfl, trivial⟩ rfl ?_); rintro v H11 I11 hle11 ⟨⟨ya, yn, yc, rfl, hy⟩, rfl⟩; have hyn := hy.len; simp only [List.length_map, List.length_nil] at hyn) | (refine O_ev WideF.wide rfl (Ev_eqbs rfl rfl) rfl rfl ?_) | (refine O_ef rfl (Ef_call (I := []) WideF.wide (huse _ (hle6.trans (hle7.trans (hle8.trans (hle9.trans (hle10.trans hle11)))))) ⟨rfl, rfl, trivial⟩ rfl ?_); rintro v H12 I12 hle12 ⟨rfl, rfl⟩) | refine O_nil ?_ | refine A_ret ?_ | (show opsA _ _ _ _ _ _ _; first | (refine O_split rfl rfl (fun h => ?_) (fun h => ?_) <;> try (exfalso; omega)) | refine O_ev WideF.wide rfl (Ev_pure rfl) rfl rfl ?_ | (show opsA _ _ _ _ (⟨_, .load _ _, _, _, _, _⟩ :: _) _ _; first | refine O_ev WideF.wide rfl (Ev_loadB1 (i := 4) rfl rfl rfl) rfl rfl ?_ | refine O_ev WideF.wide rfl (Ev_loadB (i := 2) rfl rfl rfl) rfl rfl ?_) | (show opsA _ _ _ _ (⟨_, .fieldAddr _ _ _, _, _, _, _⟩ :: _) _ _; refine O_ev WideF.wide rfl (Ev_fieldAddr rfl rfl rfl) rfl rfl ?_) | (show opsA _ _ _ _ (⟨_, .call _, _, _, _, _⟩ :: _) _ _; refine O_ev WideF.wide rfl (Ev_llen rfl) rfl rfl ?_) | (show opsA _ _ _ _ (⟨_, .unOp _ _ _, _, _, _, _⟩ :: _) _ _; refine O_ev WideF.wide rfl (Ev_notb rfl) rfl rfl ?_) | refine O_skip WideF.wide rfl rfl rfl ?_))
      all_goals first
        | (exfalso; omega)
        | exact End_e (Ret1 rfl rfl) ⟨rfl, rfl⟩
end Go.Proofs.Ythniohgeojenaaa
