/-
  MarkDeletes.
-/
import Derived.Test.YthniohgeojenaaaM25
import Derived.Test.YthniohgeojenaaaM20
namespace Go.Proofs.Ythniohgeojenaaa
open Go
set_option linter.unusedVariables false
set_option linter.unusedSimpArgs false
theorem orig_dels (q : Head) (l : List Dele) : decH (fun _ => false) (fun _ => true) ⟨q.props, q.ins, q.move, l, q.layers⟩ = decH (fun _ => false) (fun _ => true) q := by
  have h1 := gone_orig q
  have h2 := gone_orig ⟨q.props, q.ins, q.move, l, q.layers⟩
  have f : ∀ l : List Dele, List.filter (fun _ => false) l = [] := fun l => List.filter_eq_nil_iff.2 (by simp)
  unfold decH
  rw [h1, h2]
  simp [f]
theorem insD_ne (x : Dele) (l : List Dele) : insD x l ≠ [] := by
  cases l with
  | nil => simp [insD]
  | cons d r => rw [insD]; split <;> simp
theorem insD_len (x : Dele) : ∀ l : List Dele, (insD x l).length = l.length + 1
  | [] => rfl
  | d :: r => by rw [insD]; split <;> simp [insD_len x r]
attribute [local irreducible] wpA opsA drJ drQ drE Ef Ev Shift Fn
set_option maxRecDepth 100000 in
theorem gone_fn {H : Hp} {hcs : List Value} {q : Head} (hh : HeadH H hcs q) (hl : q.mass < 68719476736) : FnP Try.prog 30 [.agg hcs.toArray] H (.bool (decide (q = Head.none))) := by
  have he := EqualHead_fn hh (zHead_none H) hl
  obtain ⟨pa, pn, pc, da, dn, dc, la, ln, lc, rfl, h1, h2, h3⟩ := hh.ex
  refine Fn_of _ _ Try.func30 rfl Try.ntmps30 rfl fun c => ?_
  repeat' (first | (refine O_ef rfl (Ef_callp WideF.wide he ⟨rfl, rfl, trivial⟩ rfl ?_)) | refine O_nil ?_ | refine A_seq ?_ | refine A_region ?_ | refine A_ret ?_ | (show opsA _ _ _ _ _ _ _; first | refine O_ev WideF.wide rfl (Ev_pure rfl) rfl rfl ?_ | (show opsA _ _ _ _ (⟨_, .load _ _, _, _, _, _⟩ :: _) _ _; refine O_ev WideF.wide rfl (Ev_loadB (i := 0) rfl rfl rfl) rfl rfl ?_) | (show opsA _ _ _ _ (⟨_, .build _ _, _, _, _, _⟩ :: _) _ _; refine O_ev WideF.wide rfl (Ev_build (vs := []) trivial rfl) rfl rfl ?_) | (show opsA _ _ _ _ (⟨_, .box _ _, _, _, _, _⟩ :: _) _ _; (refine O_ef rfl (Ef_boxa WideF.wide rfl rfl ?_); intro b))))
  exact End_p (Ret1 rfl rfl) rfl
set_option maxRecDepth 100000 in
set_option maxHeartbeats 8000000 in
theorem MarkDeletes_fn {H : Hp} {hcs : List Value} {q : Head} {rev move : Int} (hh : HeadH H hcs q) (hl : q.mass < 1073741824) :
    Fn Try.prog 6 [.agg hcs.toArray, .int .i64 rev, .int .i64 move] H [] fun v _ I' => v = .bool true ∧ I' = [] := by
  obtain ⟨pa, pn, pc, da, dn, dc, la, ln, lc, rfl, h1, h2, h3⟩ := hh.ex
  have hord := ordered_fn hh hl
  refine Fn_of _ _ Try.func6 rfl Try.ntmps6 rfl fun c => ?_
  refine A_seq ?_
  refine A_cutu (fun s => ∃ b3, s = ⟨170, [(1, .int .i64 rev), (2, .int .i64 move), (3, ptr b3), (6, .bool false)], H, [.box b3 [.slice pa pn pc, .int .i64 q.ins, .int .i64 q.move, .slice da dn dc, .slice la ln lc]], [], []⟩) ?_ ?_
  · repeat' (first | refine O_nil ?_ | refine A_region ?_ | (show opsA _ _ _ _ _ _ _; first | refine O_ev WideF.wide rfl (Ev_pure rfl) rfl rfl ?_ | (show opsA _ _ _ _ (⟨_, .box _ _, _, _, _, _⟩ :: _) _ _; (refine O_ef rfl (Ef_boxa WideF.wide rfl rfl ?_); intro b))))
    exact Shift.to ⟨_, rfl⟩ ⟨rfl, rfl, rfl, ⟨rfl, rfl, rfl, rfl, trivial⟩, Own.subi [0] (by decide) rfl rfl⟩
  rintro s ⟨b3, rfl⟩
  refine A_seq ?_
  refine A_cutu (fun s => ∃ (H1 : Hp) (cs1 : List Value), HeadH H1 cs1 (ordH q) ∧ s = ⟨170, [(1, .int .i64 rev), (2, .int .i64 move), (3, ptr b3), (6, .bool false)], H1, [.box b3 cs1], [], []⟩) ?_ ?_
  · repeat' (first | (refine O_ef rfl (Ef_call (I := []) WideF.wide hord ⟨rfl, trivial⟩ rfl ?_); rintro v H1 I1 hle1 ⟨⟨cs1, rfl, hcs1⟩, rfl⟩; obtain ⟨pa1, pn1, pc1, da1, dn1, dc1, la1, ln1, lc1, rfl, h11, h21, h31⟩ := hcs1.ex) | refine O_nil ?_ | refine A_region ?_ | (show opsA _ _ _ _ _ _ _; first | (show opsA _ _ _ _ (⟨_, .load _ _, _, _, _, _⟩ :: _) _ _; refine O_ev WideF.wide rfl (Ev_loadB (i := 0) rfl rfl rfl) rfl rfl ?_) | (show opsA _ _ _ _ (⟨_, .store _ _ _, _, _, _, _⟩ :: _) _ _; refine O_ef rfl (Ef_storew WideF.wide rfl rfl rfl rfl rfl ?_))))
    exact Shift.to ⟨_, _, hcs1, rfl⟩ ⟨rfl, rfl, rfl, ⟨rfl, rfl, rfl, rfl, trivial⟩, Own.subi [0] (by decide) rfl rfl⟩
  rintro s ⟨H1, cs1, hcs1, rfl⟩
  have hgood := ordH_good q
  have hmass := ordH_mass q
  have hrevs := ordH_revs q
  generalize ordH q = o at *
  obtain ⟨pa1, pn1, pc1, da1, dn1, dc1, la1, ln1, lc1, rfl, h11, h21, h31⟩ := hcs1.ex
  have l2 := h21.len
  simp only [List.length_map] at l2
  have hm2 : dn1 ≤ 120 := by unfold Head.mass at hmass; omega
  have hdel := Delete_fn (rev := rev) (move := move) hcs1 hrevs (by omega)
  refine A_seq ?_
  refine A_cutu (fun s => ∃ (H2 : Hp) (cs2 : List Value) (b7 : Nat), HLe H1 H2 ∧ HeadH H2 cs2 (delH o rev move).1 ∧ s = ⟨170, [(1, .int .i64 rev), (2, .int .i64 move), (3, ptr b3), (6, .bool false), (7, ptr b7), (8, .bool (delH o rev move).2.1), (9, .int .i64 (delH o rev move).2.2)], H2, [.box b3 [.slice pa1 pn1 pc1, .int .i64 o.ins, .int .i64 o.move, .slice da1 dn1 dc1, .slice la1 ln1 lc1], .box b7 cs2], [], []⟩) ?_ ?_
  · repeat' (first | (refine O_ef rfl (Ef_call (I := []) WideF.wide hdel ⟨rfl, rfl, rfl, trivial⟩ rfl ?_); rintro v H2 I2 hle2 ⟨⟨cs2, rfl, hcs2⟩, rfl⟩; obtain ⟨pa2, pn2, pc2, da2, dn2, dc2, la2, ln2, lc2, rfl, h12, h22, h32⟩ := hcs2.ex) | refine O_nil ?_ | refine A_region ?_ | (show opsA _ _ _ _ _ _ _; first | refine O_ev WideF.wide rfl (Ev_pure rfl) rfl rfl ?_ | (show opsA _ _ _ _ (⟨_, .load _ _, _, _, _, _⟩ :: _) _ _; refine O_ev WideF.wide rfl (Ev_loadB (i := 0) rfl rfl rfl) rfl rfl ?_) | (show opsA _ _ _ _ (⟨_, .alloc _, _, _, _, _⟩ :: _) _ _; (refine O_ef rfl (Ef_alloc WideF.wide rfl ?_); intro b)) | (show opsA _ _ _ _ (⟨_, .store _ _ _, _, _, _, _⟩ :: _) _ _; refine O_ef rfl (Ef_storew WideF.wide rfl rfl rfl rfl rfl ?_))))
    exact Shift.to ⟨_, _, _, hle2, hcs2, rfl⟩ ⟨rfl, rfl, rfl, ⟨rfl, rfl, rfl, rfl, rfl, rfl, rfl, trivial⟩, Own.subi [1, 0] (by decide) rfl rfl⟩
  rintro s ⟨H2, cs2, b7, hle2, hcs2, rfl⟩
  have h22 := h21.mono hle2
  refine A_seq ?_
  refine A_cutu (fun s => s = ⟨170, [(10, .int .i64 0), (1, .int .i64 rev), (2, .int .i64 move), (3, ptr b3), (6, .bool false), (7, ptr b7), (8, .bool (delH o rev move).2.1), (9, .int .i64 (delH o rev move).2.2)], H2, [.box b3 [.slice pa1 pn1 pc1, .int .i64 o.ins, .int .i64 o.move, .slice da1 dn1 dc1, .slice la1 ln1 lc1], .box b7 cs2], [], []⟩) ?_ ?_
  · repeat' (first | refine O_nil ?_ | refine A_region ?_ | (show opsA _ _ _ _ _ _ _; refine O_ev WideF.wide rfl (Ev_pure rfl) rfl rfl ?_))
    exact Shift.to rfl ⟨rfl, rfl, rfl, ⟨rfl, rfl, rfl, rfl, rfl, rfl, rfl, rfl, trivial⟩, Own.subi [0, 1] (by decide) rfl rfl⟩
  rintro s rfl
  refine A_seq ?_
  refine A_cutu (fun s => ∃ at_ : Nat, Spot (o.dels.map Dele.rev) rev at_ ∧ s = ⟨170, [(10, .int .i64 at_), (1, .int .i64 rev), (2, .int .i64 move), (3, ptr b3), (6, .bool false), (7, ptr b7), (8, .bool (delH o rev move).2.1), (9, .int .i64 (delH o rev move).2.2)], H2, [.box b3 [.slice pa1 pn1 pc1, .int .i64 o.ins, .int .i64 o.move, .slice da1 dn1 dc1, .slice la1 ln1 lc1], .box b7 cs2], [], []⟩) ?_ ?_
  · repeat' (first | refine A_block ?_)
    refine A_loopu (fun m s => ∃ k : Nat, m = dn1 - k ∧ k ≤ dn1 ∧ (∀ j a, j < k → (o.dels.map Dele.rev)[j]? = some a → a < rev) ∧ s = ⟨170, [(10, .int .i64 k), (1, .int .i64 rev), (2, .int .i64 move), (3, ptr b3), (6, .bool false), (7, ptr b7), (8, .bool (delH o rev move).2.1), (9, .int .i64 (delH o rev move).2.2)], H2, [.box b3 [.slice pa1 pn1 pc1, .int .i64 o.ins, .int .i64 o.move, .slice da1 dn1 dc1, .slice la1 ln1 lc1], .box b7 cs2], [], []⟩) ?_ ?_
    · exact Shift.to ⟨_, 0, rfl, by omega, fun j a hj => absurd hj (by omega), rfl⟩ ⟨rfl, rfl, rfl, ⟨rfl, rfl, rfl, rfl, rfl, rfl, rfl, rfl, trivial⟩, Own.subi [0, 1] (by decide) rfl rfl⟩
    · rintro m s ⟨k, rfl, hk, hall, rfl⟩
      by_cases hlt : k < dn1
      · obtain ⟨b', ob, d, rfl, hdk, hc⟩ := h22.atm k hlt
        have hdk' : (o.dels.map Dele.rev)[k]? = some d.rev := by rw [List.getElem?_map, hdk]; rfl
        unfold drow at hc
        by_cases hd : d.rev < rev
        · repeat' (first | (refine O_ev WideF.wide rfl (Ev_loadH1 rfl (hc 0 _ rfl)) rfl rfl ?_) | refine O_nil ?_ | refine A_seq ?_ | refine A_region ?_ | refine A_skip ?_ | refine A_block ?_ | (show opsA _ _ _ _ _ _ _; first | (refine O_split rfl rfl (fun h => ?_) (fun h => ?_) <;> try (exfalso; omega)) | refine O_ev WideF.wide rfl (Ev_pure rfl) rfl rfl ?_ | (show opsA _ _ _ _ (⟨_, .load _ _, _, _, _, _⟩ :: _) _ _; refine O_ev WideF.wide rfl (Ev_loadB1 (i := 0) rfl rfl rfl) rfl rfl ?_) | (show opsA _ _ _ _ (⟨_, .indexAddr _ _ _, _, _, _, _⟩ :: _) _ _; refine O_ev WideF.wide rfl (Ev_indexAddr rfl rfl (by omega) (by omega)) rfl rfl ?_) | (show opsA _ _ _ _ (⟨_, .fieldAddr _ _ _, _, _, _, _⟩ :: _) _ _; refine O_ev WideF.wide rfl (Ev_fieldAddr rfl rfl rfl) rfl rfl ?_) | (show opsA _ _ _ _ (⟨_, .call _, _, _, _, _⟩ :: _) _ _; refine O_ev WideF.wide rfl (Ev_llen rfl) rfl rfl ?_) | (show opsA _ _ _ _ (⟨_, .binOp _ _ _ _ _, _, _, _, _⟩ :: _) _ _; refine O_ev WideF.wide rfl (Ev_add rfl rfl (wi64 (by omega))) rfl rfl ?_)) | (show wpA _ _ _ (.cond _ _ _) _ _ _ _; (refine A_if rfl (fun h => ?_) (fun h => ?_) <;> try (exfalso; omega))))
          refine Shift.to ⟨_, ?_, k + 1, rfl, by omega, fun j a hj ha => ?_, rfl⟩ ⟨rfl, rfl, rfl, ⟨rfl, rfl, rfl, rfl, rfl, rfl, rfl, rfl, trivial⟩, Own.subi [0, 1] (by decide) rfl rfl⟩
          · omega
          · by_cases hjk : j = k
            · subst hjk; rw [hdk'] at ha; cases ha; exact hd
            · exact hall j a (by omega) ha
        · have hsp : Spot (o.dels.map Dele.rev) rev k := ⟨by simp; omega, hall, fun j a hj ha => by have := hrevs.le hdk' ha hj; omega⟩
          repeat' (first | (refine O_ev WideF.wide rfl (Ev_loadH1 rfl (hc 0 _ rfl)) rfl rfl ?_) | refine O_nil ?_ | refine A_seq ?_ | refine A_region ?_ | (show opsA _ _ _ _ _ _ _; first | (refine O_split rfl rfl (fun h => ?_) (fun h => ?_) <;> try (exfalso; omega)) | refine O_ev WideF.wide rfl (Ev_pure rfl) rfl rfl ?_ | (show opsA _ _ _ _ (⟨_, .load _ _, _, _, _, _⟩ :: _) _ _; refine O_ev WideF.wide rfl (Ev_loadB1 (i := 0) rfl rfl rfl) rfl rfl ?_) | (show opsA _ _ _ _ (⟨_, .indexAddr _ _ _, _, _, _, _⟩ :: _) _ _; refine O_ev WideF.wide rfl (Ev_indexAddr rfl rfl (by omega) (by omega)) rfl rfl ?_) | (show opsA _ _ _ _ (⟨_, .fieldAddr _ _ _, _, _, _, _⟩ :: _) _ _; refine O_ev WideF.wide rfl (Ev_fieldAddr rfl rfl rfl) rfl rfl ?_) | (show opsA _ _ _ _ (⟨_, .call _, _, _, _, _⟩ :: _) _ _; refine O_ev WideF.wide rfl (Ev_llen rfl) rfl rfl ?_)) | (show wpA _ _ _ (.exit _) _ _ _ _; refine A_exit rfl ?_) | (show wpA _ _ _ (.cond _ _ _) _ _ _ _; (refine A_if rfl (fun h => ?_) (fun h => ?_) <;> try (exfalso; omega))))
          exact Shift.to ⟨k, hsp, rfl⟩ ⟨rfl, rfl, rfl, ⟨rfl, rfl, rfl, rfl, rfl, rfl, rfl, rfl, trivial⟩, Own.subi [0, 1] (by decide) rfl rfl⟩
      · have hin : dn1 = k := by omega
        subst hin
        have hsp : Spot (o.dels.map Dele.rev) rev dn1 := ⟨by simp; omega, hall, fun j a hj ha => by have := (List.getElem?_eq_some_iff.1 ha).1; simp at this; omega⟩
        repeat' (first | refine O_nil ?_ | refine A_seq ?_ | refine A_region ?_ | (show opsA _ _ _ _ _ _ _; first | (refine O_split rfl rfl (fun h => ?_) (fun h => ?_) <;> try (exfalso; omega)) | refine O_ev WideF.wide rfl (Ev_pure rfl) rfl rfl ?_ | (show opsA _ _ _ _ (⟨_, .load _ _, _, _, _, _⟩ :: _) _ _; refine O_ev WideF.wide rfl (Ev_loadB1 (i := 0) rfl rfl rfl) rfl rfl ?_) | (show opsA _ _ _ _ (⟨_, .fieldAddr _ _ _, _, _, _, _⟩ :: _) _ _; refine O_ev WideF.wide rfl (Ev_fieldAddr rfl rfl rfl) rfl rfl ?_) | (show opsA _ _ _ _ (⟨_, .call _, _, _, _, _⟩ :: _) _ _; refine O_ev WideF.wide rfl (Ev_llen rfl) rfl rfl ?_) | refine O_skip WideF.wide rfl rfl rfl ?_) | (show wpA _ _ _ (.exit _) _ _ _ _; refine A_exit rfl ?_) | (show wpA _ _ _ (.cond _ _ _) _ _ _ _; refine A_iffalse rfl ?_))
        exact Shift.to ⟨_, hsp, rfl⟩ ⟨rfl, rfl, rfl, ⟨rfl, rfl, rfl, rfl, rfl, rfl, rfl, rfl, trivial⟩, Own.subi [0, 1] (by decide) rfl rfl⟩
  rintro s ⟨at_, hsp, rfl⟩
  have hmem := hsp.mem hrevs
  have hatl := hsp.le
  simp only [List.length_map] at hatl
  refine A_seq ?_
  refine A_cutu (fun s => s = ⟨170, [(11, .bool (decide (rev ∈ o.dels.map Dele.rev))), (10, .int .i64 at_), (1, .int .i64 rev), (2, .int .i64 move), (3, ptr b3), (6, .bool false), (7, ptr b7), (8, .bool (delH o rev move).2.1), (9, .int .i64 (delH o rev move).2.2)], H2, [.box b3 [.slice pa1 pn1 pc1, .int .i64 o.ins, .int .i64 o.move, .slice da1 dn1 dc1, .slice la1 ln1 lc1], .box b7 cs2], [], []⟩) ?_ ?_
  · by_cases hlt : at_ < dn1
    · obtain ⟨b', ob, d, rfl, hdk, hc⟩ := h22.atm at_ hlt
      have hdk' : (o.dels.map Dele.rev)[at_]? = some d.rev := by rw [List.getElem?_map, hdk]; rfl
      rw [hdk'] at hmem
      simp only [Option.some.injEq] at hmem
      rw [show decide (rev ∈ o.dels.map Dele.rev) = decide (d.rev = rev) from decide_eq_decide.2 hmem]
      unfold drow at hc
      repeat' (first | (refine O_ev WideF.wide rfl (Ev_loadH1 rfl (hc 0 _ rfl)) rfl rfl ?_) | refine O_nil ?_ | refine A_region ?_ | (show opsA _ _ _ _ _ _ _; first | (refine O_split rfl rfl (fun h => ?_) (fun h => ?_) <;> try (exfalso; omega)) | refine O_ev WideF.wide rfl (Ev_pure rfl) rfl rfl ?_ | (show opsA _ _ _ _ (⟨_, .load _ _, _, _, _, _⟩ :: _) _ _; refine O_ev WideF.wide rfl (Ev_loadB1 (i := 0) rfl rfl rfl) rfl rfl ?_) | (show opsA _ _ _ _ (⟨_, .indexAddr _ _ _, _, _, _, _⟩ :: _) _ _; refine O_ev WideF.wide rfl (Ev_indexAddr rfl rfl (by omega) (by omega)) rfl rfl ?_) | (show opsA _ _ _ _ (⟨_, .fieldAddr _ _ _, _, _, _, _⟩ :: _) _ _; refine O_ev WideF.wide rfl (Ev_fieldAddr rfl rfl rfl) rfl rfl ?_) | (show opsA _ _ _ _ (⟨_, .call _, _, _, _, _⟩ :: _) _ _; refine O_ev WideF.wide rfl (Ev_llen rfl) rfl rfl ?_)))
      exact Shift.to rfl ⟨rfl, rfl, rfl, ⟨rfl, rfl, rfl, rfl, rfl, rfl, rfl, rfl, rfl, trivial⟩, Own.subi [0, 1] (by decide) rfl rfl⟩
    · rw [List.getElem?_eq_none (by simp; omega)] at hmem
      rw [decide_eq_false (fun h => by have := hmem.1 h; cases this)]
      repeat' (first | refine O_nil ?_ | refine A_region ?_ | (show opsA _ _ _ _ _ _ _; first | (refine O_split rfl rfl (fun h => ?_) (fun h => ?_) <;> try (exfalso; omega)) | refine O_ev WideF.wide rfl (Ev_pure rfl) rfl rfl ?_ | (show opsA _ _ _ _ (⟨_, .load _ _, _, _, _, _⟩ :: _) _ _; refine O_ev WideF.wide rfl (Ev_loadB1 (i := 0) rfl rfl rfl) rfl rfl ?_) | (show opsA _ _ _ _ (⟨_, .fieldAddr _ _ _, _, _, _, _⟩ :: _) _ _; refine O_ev WideF.wide rfl (Ev_fieldAddr rfl rfl rfl) rfl rfl ?_) | (show opsA _ _ _ _ (⟨_, .call _, _, _, _, _⟩ :: _) _ _; refine O_ev WideF.wide rfl (Ev_llen rfl) rfl rfl ?_) | refine O_skip WideF.wide rfl rfl rfl ?_))
      exact Shift.to rfl ⟨rfl, rfl, rfl, ⟨rfl, rfl, rfl, rfl, rfl, rfl, rfl, rfl, rfl, trivial⟩, Own.subi [0, 1] (by decide) rfl rfl⟩
  rintro s rfl
  have hcs12 := hcs1.mono hle2
  by_cases hA : rev = 0 ∨ o.ins = rev
  · have e : delH o rev move = (Head.none, false, 0) := by unfold delH; rw [if_pos hA]
    simp only [e] at hcs2 ⊢
    have hg := fun Hx (hx : HLe H2 Hx) => gone_fn (hcs2.mono hx) (by decide)
    simp only [decide_true] at hg
    obtain ⟨pa2, pn2, pc2, da2, dn2, dc2, la2, ln2, lc2, rfl, _, _, _⟩ := hcs2.ex
    repeat' (first | (refine O_ef rfl (Ef_call (I := []) WideF.wide known_fn trivial rfl ?_); rintro v H3 I3 hle3 ⟨rfl, rfl⟩) | (refine O_ef rfl (Ef_callp WideF.wide (hg _ hle3) ⟨rfl, trivial⟩ rfl ?_)) | refine O_nil ?_ | refine A_seq ?_ | refine A_region ?_ | refine A_ret ?_ | refine A_block ?_ | (show opsA _ _ _ _ _ _ _; first | (refine O_split rfl rfl (fun h => ?_) (fun h => ?_) <;> try (exfalso; omega)) | refine O_ev WideF.wide rfl (Ev_pure rfl) rfl rfl ?_ | (show opsA _ _ _ _ (⟨_, .load _ _, _, _, _, _⟩ :: _) _ _; first | refine O_ev WideF.wide rfl (Ev_loadB1 (i := 0) rfl rfl rfl) rfl rfl ?_ | refine O_ev WideF.wide rfl (Ev_loadB (i := 1) rfl rfl rfl) rfl rfl ?_) | (show opsA _ _ _ _ (⟨_, .fieldAddr _ _ _, _, _, _, _⟩ :: _) _ _; refine O_ev WideF.wide rfl (Ev_fieldAddr rfl rfl rfl) rfl rfl ?_) | (show opsA _ _ _ _ (⟨_, .unOp _ _ _, _, _, _, _⟩ :: _) _ _; refine O_ev WideF.wide rfl (Ev_notb rfl) rfl rfl ?_) | refine O_skip WideF.wide rfl rfl rfl ?_) | (show wpA _ _ _ (.cond _ _ _) _ _ _ _; first | (refine A_if rfl (fun h => ?_) (fun h => ?_) <;> try (exfalso; omega)) | refine A_iftrue rfl ?_ | refine A_iffalse rfl ?_))
    all_goals first
      | (exfalso; omega)
      | exact End_e (Ret1 rfl rfl) ⟨rfl, rfl⟩
  by_cases hB : rev ∈ o.dels.map Dele.rev
  · have e : delH o rev move = (o, true, 0) := by unfold delH; rw [if_neg hA, if_pos hB]
    simp only [e, decide_eq_true hB] at hcs2 ⊢
    have hg := fun Hx (hx : HLe H2 Hx) => EqualHead_fn (hcs2.mono hx) (hcs12.mono hx) (by omega)
    simp only [decide_true] at hg
    obtain ⟨pa2, pn2, pc2, da2, dn2, dc2, la2, ln2, lc2, rfl, _, _, _⟩ := hcs2.ex
    repeat' (first | (refine O_ef rfl (Ef_call (I := []) WideF.wide known_fn trivial rfl ?_); rintro v H3 I3 hle3 ⟨rfl, rfl⟩) | (refine O_ef rfl (Ef_callp WideF.wide (hg _ hle3) ⟨rfl, rfl, trivial⟩ rfl ?_)) | refine O_nil ?_ | refine A_seq ?_ | refine A_region ?_ | refine A_ret ?_ | refine A_block ?_ | (show opsA _ _ _ _ _ _ _; first | (refine O_split rfl rfl (fun h => ?_) (fun h => ?_) <;> try (exfalso; omega)) | refine O_ev WideF.wide rfl (Ev_pure rfl) rfl rfl ?_ | (show opsA _ _ _ _ (⟨_, .load _ _, _, _, _, _⟩ :: _) _ _; first | refine O_ev WideF.wide rfl (Ev_loadB1 (i := 0) rfl rfl rfl) rfl rfl ?_ | refine O_ev WideF.wide rfl (Ev_loadB (i := 0) rfl rfl rfl) rfl rfl ?_ | refine O_ev WideF.wide rfl (Ev_loadB (i := 1) rfl rfl rfl) rfl rfl ?_) | (show opsA _ _ _ _ (⟨_, .fieldAddr _ _ _, _, _, _, _⟩ :: _) _ _; refine O_ev WideF.wide rfl (Ev_fieldAddr rfl rfl rfl) rfl rfl ?_) | (show opsA _ _ _ _ (⟨_, .unOp _ _ _, _, _, _, _⟩ :: _) _ _; refine O_ev WideF.wide rfl (Ev_notb rfl) rfl rfl ?_)) | (show wpA _ _ _ (.cond _ _ _) _ _ _ _; first | (refine A_if rfl (fun h => ?_) (fun h => ?_) <;> try (exfalso; omega)) | refine A_iftrue rfl ?_ | refine A_iffalse rfl ?_))
    all_goals first
      | (exfalso; omega)
      | exact End_e (Ret1 rfl rfl) ⟨rfl, rfl⟩
  by_cases hC : 16 ≤ o.dels.length
  · have e : delH o rev move = (Head.none, false, 9) := by unfold delH; rw [if_neg hA, if_neg hB, if_pos hC]
    simp only [e, decide_eq_false hB] at hcs2 ⊢
    have hg := fun Hx (hx : HLe H2 Hx) => gone_fn (hcs2.mono hx) (by decide)
    simp only [decide_true] at hg
    obtain ⟨pa2, pn2, pc2, da2, dn2, dc2, la2, ln2, lc2, rfl, _, _, _⟩ := hcs2.ex
    repeat' (first | (refine O_ef rfl (Ef_call (I := []) WideF.wide known_fn trivial rfl ?_); rintro v H3 I3 hle3 ⟨rfl, rfl⟩) | (refine O_ef rfl (Ef_callp WideF.wide (hg _ hle3) ⟨rfl, trivial⟩ rfl ?_)) | refine O_nil ?_ | refine A_seq ?_ | refine A_region ?_ | refine A_ret ?_ | refine A_block ?_ | (show opsA _ _ _ _ _ _ _; first | (refine O_split rfl rfl (fun h => ?_) (fun h => ?_) <;> try (exfalso; omega)) | refine O_ev WideF.wide rfl (Ev_pure rfl) rfl rfl ?_ | (show opsA _ _ _ _ (⟨_, .load _ _, _, _, _, _⟩ :: _) _ _; first | refine O_ev WideF.wide rfl (Ev_loadB1 (i := 0) rfl rfl rfl) rfl rfl ?_ | refine O_ev WideF.wide rfl (Ev_loadB (i := 1) rfl rfl rfl) rfl rfl ?_) | (show opsA _ _ _ _ (⟨_, .fieldAddr _ _ _, _, _, _, _⟩ :: _) _ _; refine O_ev WideF.wide rfl (Ev_fieldAddr rfl rfl rfl) rfl rfl ?_) | (show opsA _ _ _ _ (⟨_, .call _, _, _, _, _⟩ :: _) _ _; refine O_ev WideF.wide rfl (Ev_llen rfl) rfl rfl ?_) | (show opsA _ _ _ _ (⟨_, .unOp _ _ _, _, _, _, _⟩ :: _) _ _; refine O_ev WideF.wide rfl (Ev_notb rfl) rfl rfl ?_)) | (show wpA _ _ _ (.cond _ _ _) _ _ _ _; first | (refine A_if rfl (fun h => ?_) (fun h => ?_) <;> try (exfalso; omega)) | refine A_iffalse rfl ?_))
    all_goals first
      | (exfalso; omega)
      | exact End_e (Ret1 rfl rfl) ⟨rfl, rfl⟩
  have e : delH o rev move = (⟨o.props, o.ins, o.move, insD ⟨rev, move⟩ o.dels, o.layers⟩, true, 0) := by unfold delH; rw [if_neg hA, if_neg hB, if_neg hC]
  simp only [e, decide_eq_false hB] at hcs2 ⊢
  have ei := insD_at (x := ⟨rev, move⟩) hsp
  have hml : (⟨o.props, o.ins, o.move, insD ⟨rev, move⟩ o.dels, o.layers⟩ : Head).mass < 1073741824 := by
    unfold Head.mass at *
    simp only [insD_len]
    omega
  have hvis := fun Hx (hx : HLe H2 Hx) => Visible_fn (hcs2.mono hx)
  simp only [decide_eq_false (insD_ne _ _)] at hvis
  have hO1 : ∀ Hx, HLe H2 Hx → Fn Try.prog 19 [_] Hx [] fun v H' I' => (∃ cs, v = .tuple [.agg cs.toArray, .bool (decide (o.ins = 0))].toArray ∧ HeadH H' cs (decH (fun _ => false) (fun _ => true) o)) ∧ I' = [] := fun Hx hx => by
    have h := Original_fn (hcs2.mono hx) hgood.inc hml
    unfold DecideIs at h
    rwa [gone_orig, orig_dels, show (!decide (¬ o.ins = 0)) = decide (o.ins = 0) by simp] at h
  have hO2 : ∀ Hx, HLe H2 Hx → Fn Try.prog 19 [_] Hx [] fun v H' I' => (∃ cs, v = .tuple [.agg cs.toArray, .bool (decide (o.ins = 0))].toArray ∧ HeadH H' cs (decH (fun _ => false) (fun _ => true) o)) ∧ I' = [] := fun Hx hx => by
    have h := Original_fn (hcs12.mono hx) hgood.inc (by omega)
    unfold DecideIs at h
    rwa [gone_orig, show (!decide (¬ o.ins = 0)) = decide (o.ins = 0) by simp] at h
  obtain ⟨pa2, pn2, pc2, da2, dn2, dc2, la2, ln2, lc2, rfl, _, _, _⟩ := hcs2.ex
  repeat' (first | (refine O_ef rfl (Ef_call (I := []) WideF.wide known_fn trivial rfl ?_); rintro v H3 I3 hle3 ⟨rfl, rfl⟩) | refine O_nil ?_ | refine A_seq ?_ | refine A_region ?_ | refine A_skip ?_ | refine A_block ?_ | (show opsA _ _ _ _ _ _ _; first | (refine O_split rfl rfl (fun h => ?_) (fun h => ?_) <;> try (exfalso; omega)) | refine O_ev WideF.wide rfl (Ev_pure rfl) rfl rfl ?_ | (show opsA _ _ _ _ (⟨_, .load _ _, _, _, _, _⟩ :: _) _ _; first | refine O_ev WideF.wide rfl (Ev_loadB1 (i := 0) rfl rfl rfl) rfl rfl ?_ | refine O_ev WideF.wide rfl (Ev_loadB (i := 0) rfl rfl rfl) rfl rfl ?_) | (show opsA _ _ _ _ (⟨_, .fieldAddr _ _ _, _, _, _, _⟩ :: _) _ _; refine O_ev WideF.wide rfl (Ev_fieldAddr rfl rfl rfl) rfl rfl ?_) | (show opsA _ _ _ _ (⟨_, .call _, _, _, _, _⟩ :: _) _ _; refine O_ev WideF.wide rfl (Ev_llen rfl) rfl rfl ?_) | (show opsA _ _ _ _ (⟨_, .unOp _ _ _, _, _, _, _⟩ :: _) _ _; refine O_ev WideF.wide rfl (Ev_notb rfl) rfl rfl ?_) | (show opsA _ _ _ _ (⟨_, .alloc _, _, _, _, _⟩ :: _) _ _; (refine O_ef rfl (Ef_alloc WideF.wide rfl ?_); intro b)) | (show opsA _ _ _ _ (⟨_, .store _ _ _, _, _, _, _⟩ :: _) _ _; refine O_ef rfl (Ef_storew WideF.wide rfl rfl rfl rfl rfl ?_))) | (show wpA _ _ _ (.cond _ _ _) _ _ _ _; first | (refine A_if rfl (fun h => ?_) (fun h => ?_) <;> try (exfalso; omega)) | refine A_iffalse rfl ?_))
  all_goals try (exfalso; omega)
  have h23 := h22.mono hle3
  have hup := h23.upto (j := at_) (by omega)
  have hlw := h23.slice (i := at_) (j := dn1) (by omega) (Nat.le_refl _)
  refine A_cutu (fun s => ∃ (b12 : Nat) (wa : Option Addr) (wn wc : Nat) (p : List (List Value)), p = (insD ⟨rev, move⟩ o.dels).map drow ∧ s = ⟨170, [(12, ptr b12), (11, .bool false), (10, .int .i64 at_), (1, .int .i64 rev), (2, .int .i64 move), (3, ptr b3), (6, .bool false), (7, ptr b7), (8, .bool true), (9, .int .i64 0)], H3, [.row (.slice wa wn wc) 2 p, .box b12 [.slice pa1 pn1 pc1, .int .i64 o.ins, .int .i64 o.move, .slice wa wn wc, .slice la1 ln1 lc1], .box b3 [.slice pa1 pn1 pc1, .int .i64 o.ins, .int .i64 o.move, .slice da1 dn1 dc1, .slice la1 ln1 lc1], .box b7 [.slice pa2 pn2 pc2, .int .i64 o.ins, .int .i64 o.move, .slice da2 dn2 dc2, .slice la2 ln2 lc2]], [], []⟩) ?_ ?_
  · have hp : (o.dels.map drow).take at_ ++ [drow ⟨rev, move⟩] ++ ((o.dels.map drow).drop at_).take (dn1 - at_) = (insD ⟨rev, move⟩ o.dels).map drow := by
      rw [ei, List.take_of_length_le (l := (o.dels.map drow).drop at_) (by simp; omega)]; simp
    (refine A_drawi WideF.wide (.p 1 (.p 2 (.q 3 (.q 4 (.q 5 (.q 7 (.q 8 (.q 9 (.q 12 (.q 13 (.q 14 (.q 15 (.q 16 (.f 0 (.f 6 (.e 10 (.e 11 (.r (.e 17 (.q 18 (.q 19 (.e 20 (.done [])))))))) 10 (.e 6 (.e 11 (.r (.e 17 (.q 18 (.q 19 (.e 20 (.done []))))))))) 10 (.e 0 (.e 6 (.e 11 (.r (.e 17 (.q 18 (.q 19 (.e 20 (.done []))))))))))))))))))))))) [17, 18, 19, 20] [] [0, 1, 2] (by decide +kernel) (by decide) rfl ?_; simp only [Own.picks, Own.rget, List.cons_append, List.nil_append, List.append_nil])
    repeat' (first | (refine D_ev rfl (Ev_lsliceh rfl rfl (by omega) (by have := h23.cap; omega)) rfl rfl ?_) | (refine D_ev rfl (Ev_lslicel rfl rfl (by omega) (by omega)) rfl rfl ?_) | (refine E_ef rfl (Ef_build0 WideF.wide rfl ?_); intro bz; refine ⟨Grow.same rfl rfl, ?_⟩) | (refine E_ef rfl (Ef_build1a WideF.wide rfl rfl rfl rfl rfl ?_); intro bz; refine ⟨Grow.same rfl rfl, ?_⟩) | (refine E_ef rfl (Ef_appendR WideF.wide rfl rfl rfl rfl rfl (by simp; omega) (by simp; omega) rfl ?_); intro a4 c4; refine ⟨Grow.same rfl rfl, ?_⟩) | (refine E_ef rfl (Ef_appendH WideF.wide rfl rfl hup rfl rfl (by simp; omega) (by simp; omega) rfl ?_); intro a4 c4; refine ⟨Grow.same rfl rfl, ?_⟩) | (refine E_ef rfl (Ef_f1 (Ef_appendH WideF.wide rfl rfl hup rfl rfl (by simp; omega) (by simp; omega) rfl ?_)); intro a4 c4; refine ⟨Grow.same rfl rfl, ?_⟩) | (refine E_ef rfl (Ef_appendH WideF.wide rfl rfl hlw rfl rfl (by simp; omega) (by simp; omega) rfl ?_); intro a4 c4; refine ⟨Grow.same rfl rfl, ?_⟩) | refine O_nil ?_ | (show drJ _ _ _ _ _ _ _ (.q _ _) _; refine D_q rfl ?_) | (show drJ _ _ _ _ _ _ _ (.e _ _) _; refine D_e rfl ?_) | (show drJ _ _ _ _ _ _ _ (.f _ _ _ _) _; refine D_f rfl rfl ?_ ?_) | (show drJ _ _ _ _ _ _ _ (.r _) _; refine D_r ?_; simp only [List.cons_append, List.nil_append]) | (show drJ _ _ _ _ _ _ _ (.done _) _; refine D_done ?_; simp only [List.cons_append, List.nil_append]) | (show drQ _ _ _ _ _ _; first | refine D_ev rfl (Ev_pure rfl) rfl rfl ?_ | (show drQ _ _ _ ⟨_, .load _ _, _, _, _, _⟩ _ _; refine D_ev rfl (Ev_loadB1 (i := 1) rfl rfl rfl) rfl rfl ?_) | (show drQ _ _ _ ⟨_, .fieldAddr _ _ _, _, _, _, _⟩ _ _; refine D_ev rfl (Ev_fieldAddr rfl rfl rfl) rfl rfl ?_) | (show drQ _ _ _ ⟨_, .build _ _, _, _, _, _⟩ _ _; refine D_ev rfl (Ev_build (vs := [(_, _), (_, _)]) ⟨rfl, rfl, rfl, rfl, trivial⟩ rfl) rfl rfl ?_)) | (show drJ _ _ _ _ _ _ _ (.p _ _) _; refine D_p rfl ?_) | (show drP _ _ _ _ _ _; (show drP _ _ _ ⟨_, .fieldAddr _ _ _, _, _, _, _⟩ _ _; refine D_pv rfl (Ev_fieldAddr rfl rfl rfl) rfl rfl ?_)) | (show drE _ _ _ _ _ _ _; first | (show drE _ _ _ _ ⟨_, .call _, _, _, _, _⟩ _ _; (refine E_ef rfl (Ef_f1 (Ef_appendR WideF.wide rfl rfl rfl rfl rfl (by simp; omega) (by simp; omega) rfl ?_)); intro a cp; refine ⟨Grow.same rfl rfl, ?_⟩)) | (show drE _ _ _ _ ⟨_, .store _ _ _, _, _, _, _⟩ _ _; (refine E_ef rfl (Ef_f1 (Ef_store1 WideF.wide rfl rfl rfl rfl rfl ?_)); refine ⟨Grow.same rfl rfl, ?_⟩))))
    all_goals exact Shift.to ⟨_, _, _, _, _, hp, rfl⟩ ⟨rfl, rfl, rfl, ⟨rfl, rfl, rfl, rfl, rfl, rfl, rfl, rfl, rfl, rfl, trivial⟩, Own.subi [1, 0, 2, 3] (by decide) rfl rfl⟩
  rintro s ⟨b12, wa, wn, wc, p, hp, rfl⟩
  refine A_freeze (by rw [hp]; exact drow_one _) ?_
  intro H4 hle4 r4
  have r4 := r4.cong hp.symm
  have hle14 := hle2.trans (hle3.trans hle4)
  have hwant : HeadH H4 [.slice pa1 pn1 pc1, .int .i64 o.ins, .int .i64 o.move, .slice wa wn wc, .slice la1 ln1 lc1] ⟨o.props, o.ins, o.move, insD ⟨rev, move⟩ o.dels, o.layers⟩ := ⟨⟨_, _, _, _, _, _, _, _, _, rfl, h11.mono hle14, r4, h31.mono hle14⟩⟩
  have hq1 := fun Hx (hx : HLe H4 Hx) => EqualHead_fn (hcs2.mono ((hle3.trans hle4).trans hx)) (hwant.mono hx) (by omega)
  simp only [decide_true] at hq1
  have hmD := decH_mass (fun _ => false) (fun _ => true) o
  have hq2 : ∀ Hx cs cs', HeadH Hx cs (decH (fun _ => false) (fun _ => true) o) → HeadH Hx cs' (decH (fun _ => false) (fun _ => true) o) → FnP Try.prog 18 [.agg cs.toArray, .agg cs'.toArray] Hx (.bool true) := fun Hx cs cs' g g' => by
    have h := EqualHead_fn g g' (by unfold Head.mass at hmass hmD ⊢; omega)
    rwa [decide_eq_true rfl] at h
  repeat' (first | (refine O_ef rfl (Ef_call (I := []) WideF.wide (hO1 _ (hle3.trans hle4)) ⟨rfl, trivial⟩ rfl ?_); rintro v H5 I5 hle5 ⟨⟨cs5, rfl, hcs5⟩, rfl⟩; obtain ⟨pa5, pn5, pc5, da5, dn5, dc5, la5, ln5, lc5, rfl, _, _, _⟩ := hcs5.ex) | (refine O_ef rfl (Ef_call (I := []) WideF.wide (hO2 _ (hle3.trans (hle4.trans hle5))) ⟨rfl, trivial⟩ rfl ?_); rintro v H6 I6 hle6 ⟨⟨cs6, rfl, hcs6⟩, rfl⟩; obtain ⟨pa6, pn6, pc6, da6, dn6, dc6, la6, ln6, lc6, rfl, _, _, _⟩ := hcs6.ex) | (refine O_ef rfl (Ef_callp WideF.wide (hq1 _ (hle5.trans hle6)) ⟨rfl, rfl, trivial⟩ rfl ?_)) | (refine O_ev WideF.wide rfl (Ev_eqbs rfl rfl) rfl rfl ?_) | (refine O_ef rfl (Ef_callp WideF.wide (hq2 _ _ _ (hcs5.mono hle6) hcs6) ⟨rfl, rfl, trivial⟩ rfl ?_)) | (refine O_ef rfl (Ef_callp WideF.wide (hvis _ (hle3.trans (hle4.trans (hle5.trans hle6)))) ⟨rfl, trivial⟩ rfl ?_)) | refine O_nil ?_ | refine A_seq ?_ | refine A_region ?_ | refine A_ret ?_ | (show opsA _ _ _ _ _ _ _; first | (refine O_split rfl rfl (fun h => ?_) (fun h => ?_) <;> try (exfalso; omega)) | refine O_ev WideF.wide rfl (Ev_pure rfl) rfl rfl ?_ | (show opsA _ _ _ _ (⟨_, .load _ _, _, _, _, _⟩ :: _) _ _; first | refine O_ev WideF.wide rfl (Ev_loadB (i := 0) rfl rfl rfl) rfl rfl ?_ | refine O_ev WideF.wide rfl (Ev_loadB (i := 1) rfl rfl rfl) rfl rfl ?_ | refine O_ev WideF.wide rfl (Ev_loadB (i := 2) rfl rfl rfl) rfl rfl ?_ | refine O_ev WideF.wide rfl (Ev_loadB (i := 4) rfl rfl rfl) rfl rfl ?_) | (show opsA _ _ _ _ (⟨_, .unOp _ _ _, _, _, _, _⟩ :: _) _ _; refine O_ev WideF.wide rfl (Ev_notb rfl) rfl rfl ?_) | (show opsA _ _ _ _ (⟨_, .alloc _, _, _, _, _⟩ :: _) _ _; (refine O_ef rfl (Ef_alloc WideF.wide rfl ?_); intro b)) | (show opsA _ _ _ _ (⟨_, .store _ _ _, _, _, _, _⟩ :: _) _ _; refine O_ef rfl (Ef_storew WideF.wide rfl rfl rfl rfl rfl ?_))))
  all_goals exact End_e (Ret1 rfl rfl) ⟨rfl, rfl⟩
end Go.Proofs.Ythniohgeojenaaa
