/-
  The law's change.
-/
import Derived.Test.YthniohgeojenaaaM28
namespace Go.Proofs.Ythniohgeojenaaa
open Go
set_option linter.unusedVariables false
set_option linter.unusedSimpArgs false
theorem newL_app {k : Int} : ∀ {g : List Layr}, (∀ y ∈ g, y.key = k) → (∀ y ∈ g, y.st.ok) → ∀ {R : List Int} {S : List St}, newL k (g.map Layr.rev ++ R) (g.map Layr.st ++ S) = g ++ newL k R S
  | [], _, _, _, _ => rfl
  | y :: r, hk, ho, R, S => by
    have h := newL_app (fun w hw => hk w (List.mem_cons_of_mem _ hw)) (fun w hw => ho w (List.mem_cons_of_mem _ hw)) (R := R) (S := S) (g := r)
    rw [List.map_cons, List.map_cons, List.cons_append, List.cons_append, newL, h, St.fix (ho y (by simp))]
    have := hk y (by simp)
    obtain ⟨a, b, c, d⟩ := y
    simp only at this
    subst this
    rfl
section
variable {F : Fence} {P : Program} {c : Ctx} {o : Oper} {K : SP} {n : Nat} {e : Env} {H : Hp} {M L : Own} {D : List Deferred}
theorem Ef_freeze {a : Option Addr} {n' cp k : Nat} {css : List (List Value)} (h1 : ∀ cs ∈ css, ∀ u ∈ cs, u.oneCell' = true)
    (h : ∀ H', HLe H H' → HRow H' a n' cp k css → Ef F P c o ⟨n, e, H', M, L, D⟩ K) : Ef F P c o ⟨n, e, H, .row (.slice a n' cp) k css :: M, L, D⟩ K := fun ac w hs => by
  obtain ⟨H', hle, hr, hh⟩ := Holds.freeze (R := M ++ L) hs.holds h1
  exact h H' hle hr ac w ⟨hs.defers, hs.size, hs.env, hh⟩
end
attribute [local irreducible] wpA opsA drJ drQ drE Ef Ev Shift Fn
set_option maxRecDepth 100000 in
set_option maxHeartbeats 2000000 in
theorem states_own {H : Hp} {hcs : List Value} {q : Head} {k : Int} (hh : HeadH H hcs q) (hs : IncP q.props) (hl : q.mass < 1073741824) : Fn Try.prog 27 [.agg hcs.toArray, .int .i64 k] H [] fun v _ I' => ∃ a n c, v = .slice a n c ∧ I' = [.row (.slice a n c) 2 (((layersK q.layers k).map Layr.st ++ [getP q.props k]).map stc)] := by
  have hm := hl
  obtain ⟨pa, pn, pc, da, dn, dc, la, ln, lc, rfl, h1, h2, h3⟩ := hh.ex
  have l3 := h3.len
  simp only [List.length_map] at l3
  unfold Head.mass at hl
  refine Fn_of _ _ Try.func27 rfl Try.ntmps27 rfl fun c => ?_
  refine A_seq ?_
  refine A_cutu (fun s => ∃ b2, s = ⟨37, [(1, .int .i64 k), (2, ptr b2)], H, [.box b2 [.slice pa pn pc, .int .i64 q.ins, .int .i64 q.move, .slice da dn dc, .slice la ln lc]], [], []⟩) ?_ ?_
  · repeat' (first | refine O_nil ?_ | refine A_region ?_ | (show opsA _ _ _ _ _ _ _; first | refine O_ev WideF.wide rfl (Ev_pure rfl) rfl rfl ?_ | (show opsA _ _ _ _ (⟨_, .box _ _, _, _, _, _⟩ :: _) _ _; (refine O_ef rfl (Ef_boxa WideF.wide rfl rfl ?_); intro b))))
    exact Shift.to ⟨_, rfl⟩ ⟨rfl, rfl, rfl, ⟨rfl, rfl, trivial⟩, Own.subi [0] (by decide) rfl rfl⟩
  rintro s ⟨b2, rfl⟩
  refine A_freezeBox (by intro u hu; simp at hu; rcases hu with rfl | rfl | rfl | rfl | rfl <;> rfl) ?_
  intro H1 hle1 hb1
  have hlo := layersOf_fn (k := k) (hh.mono hle1) hm
  refine A_nilrow 2 ?_
  repeat' (first | (refine O_ev WideF.wide rfl (Ev_loadH rfl hb1 rfl) rfl rfl ?_) | (refine O_ef rfl (Ef_call (I := []) WideF.wide hlo ⟨rfl, rfl, trivial⟩ rfl ?_); rintro v H2 I2 hle2 ⟨⟨ya, yn, yc, rfl, hy⟩, rfl⟩) | refine O_nil ?_ | refine A_seq ?_ | refine A_region ?_ | refine A_block ?_ | (show opsA _ _ _ _ _ _ _; refine O_ev WideF.wide rfl (Ev_pure rfl) rfl rfl ?_))
  have hb1 : HCells H2 b2 0 [.slice pa pn pc, .int .i64 q.ins, .int .i64 q.move, .slice da dn dc, .slice la ln lc] := fun j v hj => hle2 _ _ _ (hb1 j v hj)
  have hpr := lawPresent_fn (k := k) (hh.mono (hle1.trans hle2)) hs (by omega)
  generalize hY : layersK q.layers k = Y at hy
  have hYl : Y.length ≤ ln := by rw [← hY, ← l3]; exact List.length_filter_le _ _
  have hyl : Y.length = yn := by have := hy.len; simpa using this
  refine A_loopu (fun m s => ∃ (i : Nat) (a : Option Addr) (n c : Nat) (p : List (List Value)), m = yn - i ∧ i ≤ yn ∧ p.length = n ∧ n ≤ i ∧ p = ((Y.take i).map Layr.st).map stc ∧ s = ⟨37, [(1, .int .i64 k), (2, ptr b2), (5, .slice a n c), (6, .slice ya yn yc), (7, .int .i64 i)], H2, [.row (.slice a n c) 2 p], [], []⟩) ?_ ?_
  · exact Shift.to ⟨_, 0, none, 0, 0, [], rfl, by omega, rfl, by omega, by simp, rfl⟩ ⟨rfl, rfl, rfl, ⟨rfl, rfl, rfl, rfl, rfl, trivial⟩, Own.subi [0] (by decide) rfl rfl⟩
  · rintro m s ⟨i, a, n, cc, p, rfl, hi, hpn, hni, hpp, rfl⟩
    by_cases hlt : i < yn
    · obtain ⟨b', o, y, rfl, hyi, hc⟩ := hy.atm i hlt
      unfold lrow at hc
      repeat' (first | (refine A_drawi WideF.wide (.p 0 (.p 1 (.p 2 (.p 3 (.q 4 (.q 5 (.p 6 (.p 7 (.p 8 (.q 9 (.q 10 (.r (.q 11 (.e 12 (.e 13 (.q 14 (.done []))))))))))))))))) [11, 12, 13, 14] [] [0] (by decide +kernel) (by decide) rfl ?_; simp only [Own.picks, Own.rget, List.cons_append, List.nil_append, List.append_nil]) | (refine D_ev rfl (Ev_loadH1 rfl (hc 2 _ rfl)) rfl rfl ?_) | (refine D_ev rfl (Ev_loadH1 rfl (hc 3 _ rfl)) rfl rfl ?_) | refine O_nil ?_ | refine A_seq ?_ | refine A_region ?_ | refine A_skip ?_ | refine A_block ?_ | (show drJ _ _ _ _ _ _ _ (.q _ _) _; refine D_q rfl ?_) | (show drJ _ _ _ _ _ _ _ (.e _ _) _; refine D_e rfl ?_) | (show drJ _ _ _ _ _ _ _ (.r _) _; refine D_r ?_; simp only [List.cons_append, List.nil_append]) | (show drJ _ _ _ _ _ _ _ (.done _) _; refine D_done ?_; simp only [List.cons_append, List.nil_append]) | (show drQ _ _ _ _ _ _; first | refine D_ev rfl (Ev_pure rfl) rfl rfl ?_ | (show drQ _ _ _ ⟨_, .fieldAddr _ _ _, _, _, _, _⟩ _ _; refine D_ev rfl (Ev_fieldAddr rfl rfl rfl) rfl rfl ?_) | (show drQ _ _ _ ⟨_, .build _ _, _, _, _, _⟩ _ _; refine D_ev rfl (Ev_build (vs := [(_, _), (_, _)]) ⟨rfl, rfl, rfl, rfl, trivial⟩ rfl) rfl rfl ?_)) | (show drJ _ _ _ _ _ _ _ (.p _ _) _; refine D_p rfl ?_) | (show drP _ _ _ _ _ _; first | refine D_pv rfl (Ev_pure rfl) rfl rfl ?_ | (show drP _ _ _ ⟨_, .indexAddr _ _ _, _, _, _, _⟩ _ _; refine D_pv rfl (Ev_indexAddr rfl rfl (by omega) (by omega)) rfl rfl ?_)) | (show drE _ _ _ _ _ _ _; first | (show drE _ _ _ _ ⟨_, .call _, _, _, _, _⟩ _ _; (refine E_ef rfl (Ef_f1 (Ef_appendR WideF.wide rfl rfl rfl rfl rfl (by simp; omega) (by simp; omega) rfl ?_)); intro a cp; refine ⟨Grow.same rfl rfl, ?_⟩)) | (show drE _ _ _ _ ⟨_, .buildSlice _ _ _, _, _, _, _⟩ _ _; (refine E_ef rfl (Ef_build1a WideF.wide rfl rfl rfl rfl rfl ?_); intro b; refine ⟨Grow.same rfl rfl, ?_⟩))) | (show opsA _ _ _ _ _ _ _; first | refine O_ev WideF.wide rfl (Ev_pure rfl) rfl rfl ?_ | (show opsA _ _ _ _ (⟨_, .call _, _, _, _, _⟩ :: _) _ _; refine O_ev WideF.wide rfl (Ev_llen rfl) rfl rfl ?_) | (show opsA _ _ _ _ (⟨_, .binOp _ _ _ _ _, _, _, _, _⟩ :: _) _ _; refine O_ev WideF.wide rfl (Ev_add rfl rfl (wi64 (by omega))) rfl rfl ?_)) | (show wpA _ _ _ (.cond _ _ _) _ _ _ _; (refine A_if rfl (fun h => ?_) (fun h => ?_) <;> try (exfalso; omega))))
      refine Shift.to ⟨_, ?_, i + 1, _, _, _, p ++ [stc y.st], rfl, by omega, rfl, by simp; omega, by rw [take_get hyi, hpp]; simp, rfl⟩ ⟨rfl, rfl, rfl, ⟨rfl, rfl, rfl, rfl, rfl, trivial⟩, Own.subi [0] (by decide) rfl rfl⟩
      omega
    · have hin : yn = i := by omega
      subst hin
      rw [List.take_of_length_le (by omega)] at hpp
      repeat' (first | (refine O_ev WideF.wide rfl (Ev_loadH rfl hb1 rfl) rfl rfl ?_) | (refine O_ef rfl (Ef_callp WideF.wide hpr ⟨rfl, rfl, trivial⟩ rfl ?_)) | refine O_nil ?_ | refine A_seq ?_ | refine A_region ?_ | refine A_ret ?_ | (show opsA _ _ _ _ _ _ _; first | refine O_ev WideF.wide rfl (Ev_pure rfl) rfl rfl ?_ | (show opsA _ _ _ _ (⟨_, .call _, _, _, _, _⟩ :: _) _ _; first | refine O_ev WideF.wide rfl (Ev_llen rfl) rfl rfl ?_ | (refine O_f1 (O_ef rfl (Ef_appendR WideF.wide rfl rfl rfl rfl rfl (by simp; omega) (by simp; omega) rfl ?_)); intro a cp)) | (show opsA _ _ _ _ (⟨_, .buildSlice _ _ _, _, _, _, _⟩ :: _) _ _; (refine O_ef rfl (Ef_build1a WideF.wide rfl rfl rfl rfl rfl ?_); intro b))) | (show wpA _ _ _ (.exit _) _ _ _ _; refine A_exit rfl ?_) | (show wpA _ _ _ (.cond _ _ _) _ _ _ _; (refine A_if rfl (fun h => ?_) (fun h => ?_) <;> try (exfalso; omega))))
      have e : p ++ [stc (getP q.props k)] = (Y.map Layr.st ++ [getP q.props k]).map stc := by rw [hpp]; simp
      refine End_s (Ret1 rfl rfl) ?_
      refine Shift.lek ⟨37, [], _, [.row (.slice _ _ _) 2 (p ++ [stc (getP q.props k)])], [], []⟩ ⟨rfl, rfl, rfl, trivial, Own.subi [0] (by decide) rfl rfl⟩ ?_
      rw [e]
      exact Shift.pure ⟨rfl, _, _, _, rfl, rfl⟩
abbrev cEnv (rev k : Int) (b4 b7 b8 : Nat) : Env := [(1, .int .i64 rev), (2, .int .i64 k), (4, ptr b4), (7, ptr b7), (8, ptr b8), (9, .int .i64 0)]
set_option maxRecDepth 100000 in
set_option maxHeartbeats 8000000 in
theorem change_fn {H : Hp} {hcs : List Value} {q : Head} {rev k : Int} {s : St} (hh : HeadH H hcs q) (hq : Good q) (hl : q.mass < 1048576) (hsok : s.ok) :
    Fn Try.prog 32 [.agg hcs.toArray, .int .i64 rev, .int .i64 k, stv s] H [] (SetIs q rev k s) := by
  obtain ⟨pa, pn, pc, da, dn, dc, la, ln, lc, rfl, h1, h2, h3⟩ := hh.ex
  have hlo := layersOf_fn (k := k) hh (by omega)
  have hst := fun Hx (hx : HLe H Hx) => states_own (k := k) (hh.mono hx) hq.inc (by omega)
  have l3 := h3.len
  simp only [List.length_map] at l3
  have hm := hl
  unfold Head.mass at hm
  refine Fn_of _ _ Try.func32 rfl Try.ntmps32 rfl fun c => ?_
  refine A_seq ?_
  refine A_cutu (fun s' => ∃ b4 b7 b8, s' = ⟨121, cEnv rev k b4 b7 b8, H, [.box b4 [.slice pa pn pc, .int .i64 q.ins, .int .i64 q.move, .slice da dn dc, .slice la ln lc], .box b7 [.int .i64 s.val, .bool s.set], .box b8 zHead], [], []⟩) ?_ ?_
  · repeat' (first | refine O_nil ?_ | refine A_region ?_ | (show opsA _ _ _ _ _ _ _; first | refine O_ev WideF.wide rfl (Ev_pure rfl) rfl rfl ?_ | (show opsA _ _ _ _ (⟨_, .alloc _, _, _, _, _⟩ :: _) _ _; (refine O_ef rfl (Ef_alloc WideF.wide rfl ?_); intro b)) | (show opsA _ _ _ _ (⟨_, .box _ _, _, _, _, _⟩ :: _) _ _; (refine O_ef rfl (Ef_boxa WideF.wide rfl rfl ?_); intro b))))
    exact Shift.to ⟨_, _, _, rfl⟩ ⟨rfl, rfl, rfl, ⟨rfl, rfl, rfl, rfl, rfl, rfl, trivial⟩, Own.subi [2, 1, 0] (by decide) rfl rfl⟩
  rintro s' ⟨b4, b7, b8, rfl⟩
  have hold : ∃ old, old = getP q.props k := ⟨_, rfl⟩
  obtain ⟨old, hold⟩ := hold
  rw [← hold] at hst
  have hgk := layersK_key (l := q.layers) (k := k)
  have hgo : ∀ y ∈ layersK q.layers k, y.st.ok := fun y hy => hq.ok y (layersK_mem.1 hy).1
  have hgl : (layersK q.layers k).length ≤ q.layers.length := List.length_filter_le _ _
  have hspec : ∀ o e, (getP q.props k = s → o = q ∧ e = 0) → (¬ old = s → setE q rev k s = true → o = Head.none ∧ e = 9) → (¬ old = s → setE q rev k s = false → KeySpec q o k s (setG rev q.ins k s old (layersK q.layers k)) ∧ e = 0) → SetSpec q rev k s o e := fun o e h0 h1 h2 => by
    unfold SetSpec
    by_cases hsm : getP q.props k = s
    · rw [if_pos hsm]; exact h0 hsm
    · rw [if_neg hsm]
      cases hE : setE q rev k s with
      | true => rw [if_pos rfl]; exact h1 (hold ▸ hsm) hE
      | false => rw [if_neg (by simp), ← hold]; exact h2 (hold ▸ hsm) hE
  unfold setE at hspec
  rw [← hold] at hspec
  have hlay := fun R S z => layH_spec (q := q) (k := k) (R := R) (S := S) (z := z) hq
  generalize layersK q.layers k = g at *
  refine A_seq ?_
  refine A_cutu (fun s' => ∃ (H1 : Hp) (ya : Option Addr) (yc : Nat) (sa : Option Addr) (sn sc : Nat), HLe H H1 ∧ HRow H1 ya g.length yc 4 (g.map lrow) ∧ s' = ⟨121, (10, .slice ya g.length yc) :: (11, .slice sa sn sc) :: cEnv rev k b4 b7 b8, H1, [.row (.slice sa sn sc) 2 ((g.map Layr.st ++ [old]).map stc), .box b4 [.slice pa pn pc, .int .i64 q.ins, .int .i64 q.move, .slice da dn dc, .slice la ln lc], .box b7 [.int .i64 s.val, .bool s.set], .box b8 zHead], [], []⟩) ?_ ?_
  · (refine A_drawi WideF.wide (.q 0 (.q 1 (.q 3 (.q 4 (.e 2 (.r (.e 5 (.q 6 (.q 7 (.done [])))))))))) [5, 6, 7] [] [0, 1, 2] (by decide +kernel) (by decide) rfl ?_; simp only [Own.picks, Own.rget, List.cons_append, List.nil_append, List.append_nil])
    repeat' (first | (refine E_ef rfl (Ef_call (I := []) WideF.wide hlo ⟨rfl, rfl, trivial⟩ rfl ?_); rintro v H1 I1 hle1 ⟨⟨ya, yn, yc, rfl, hy⟩, rfl⟩; have hyn := hy.len; simp only [List.length_map] at hyn; subst hyn; refine ⟨⟨hle1, rfl⟩, ?_⟩) | (refine E_ef rfl (Ef_call (I := []) WideF.wide (hst _ hle1) ⟨rfl, rfl, trivial⟩ rfl ?_); rintro v H2 I2 hle2 ⟨sa, sn, sc, rfl, rfl⟩; refine ⟨⟨hle2, rfl⟩, ?_⟩) | refine O_nil ?_ | (show drJ _ _ _ _ _ _ _ (.q _ _) _; refine D_q rfl ?_) | (show drJ _ _ _ _ _ _ _ (.e _ _) _; refine D_e rfl ?_) | (show drJ _ _ _ _ _ _ _ (.r _) _; refine D_r ?_; simp only [List.cons_append, List.nil_append]) | (show drJ _ _ _ _ _ _ _ (.done _) _; refine D_done ?_; simp only [List.cons_append, List.nil_append]) | (show drQ _ _ _ _ _ _; first | refine D_ev rfl (Ev_pure rfl) rfl rfl ?_ | (show drQ _ _ _ ⟨_, .load _ _, _, _, _, _⟩ _ _; refine D_ev rfl (Ev_loadB (i := 0) rfl rfl rfl) rfl rfl ?_)))
    exact Shift.to ⟨H2, ya, yc, sa, sn, sc, hle1.trans hle2, hy.mono hle2, rfl⟩ ⟨rfl, rfl, rfl, ⟨rfl, rfl, rfl, rfl, rfl, rfl, rfl, rfl, trivial⟩, Own.subi [0, 1, 2, 3] (by decide) rfl rfl⟩
  rintro s' ⟨H1, ya, yc, sa, sn, sc, hle1, hy, rfl⟩
  refine A_rowaddr (q := 0) rfl ?_
  intro d1 d2 d3 d4 d5
  simp only [List.length_map, List.length_append, List.length_cons, List.length_nil] at d1 d2
  obtain ⟨sb, rfl⟩ : ∃ sb, sa = some ⟨sb, 0, none⟩ := by
    cases sa with
    | none => have := (d3 rfl).1; simp at this
    | some ad => obtain ⟨sb, rfl⟩ := d5 _ rfl; exact ⟨sb, rfl⟩
  subst d1
  have hh1 := hh.mono hle1
  refine A_seq ?_
  refine A_cutu (fun s' => s' = ⟨121, (12, .int .i64 g.length) :: (10, .slice ya g.length yc) :: (11, .slice (some ⟨sb, 0, none⟩) (g.length + 1) sc) :: cEnv rev k b4 b7 b8, H1, [.row (.slice (some ⟨sb, 0, none⟩) (g.length + 1) sc) 2 ((g.map Layr.st ++ [old]).map stc), .box b4 [.slice pa pn pc, .int .i64 q.ins, .int .i64 q.move, .slice da dn dc, .slice la ln lc], .box b7 [.int .i64 s.val, .bool s.set], .box b8 zHead], [], []⟩) ?_ ?_
  · repeat' (first | refine O_nil ?_ | refine A_region ?_ | (show opsA _ _ _ _ _ _ _; first | refine O_ev WideF.wide rfl (Ev_pure rfl) rfl rfl ?_ | (show opsA _ _ _ _ (⟨_, .call _, _, _, _, _⟩ :: _) _ _; refine O_ev WideF.wide rfl (Ev_llen rfl) rfl rfl ?_)))
    exact Shift.to rfl ⟨rfl, rfl, rfl, ⟨rfl, rfl, rfl, rfl, rfl, rfl, rfl, rfl, rfl, trivial⟩, Own.subi [0, 1, 2, 3] (by decide) rfl rfl⟩
  rintro s' rfl
  refine A_nilrow 1 ?_
  refine A_seq ?_
  refine A_cutu (fun s' => s' = ⟨121, (13, .slice none 0 0) :: (12, .int .i64 g.length) :: (10, .slice ya g.length yc) :: (11, .slice (some ⟨sb, 0, none⟩) (g.length + 1) sc) :: cEnv rev k b4 b7 b8, H1, [.row (.slice none 0 0) 1 [], .row (.slice (some ⟨sb, 0, none⟩) (g.length + 1) sc) 2 ((g.map Layr.st ++ [old]).map stc), .box b4 [.slice pa pn pc, .int .i64 q.ins, .int .i64 q.move, .slice da dn dc, .slice la ln lc], .box b7 [.int .i64 s.val, .bool s.set], .box b8 zHead], [], []⟩) ?_ ?_
  · repeat' (first | refine O_nil ?_ | refine A_region ?_ | (show opsA _ _ _ _ _ _ _; refine O_ev WideF.wide rfl (Ev_pure rfl) rfl rfl ?_))
    exact Shift.to rfl ⟨rfl, rfl, rfl, ⟨rfl, rfl, rfl, rfl, rfl, rfl, rfl, rfl, rfl, rfl, trivial⟩, Own.subi [0, 1, 2, 3, 4] (by decide) rfl rfl⟩
  rintro s' rfl
  refine A_seq ?_
  refine A_cutu (fun s' => ∃ (ba : Option Addr) (bn bc : Nat), s' = ⟨121, (13, .slice ba bn bc) :: (12, .int .i64 g.length) :: (10, .slice ya g.length yc) :: (11, .slice (some ⟨sb, 0, none⟩) (g.length + 1) sc) :: cEnv rev k b4 b7 b8, H1, [.row (.slice ba bn bc) 1 ((g.map Layr.rev).map irow), .row (.slice (some ⟨sb, 0, none⟩) (g.length + 1) sc) 2 ((g.map Layr.st ++ [old]).map stc), .box b4 [.slice pa pn pc, .int .i64 q.ins, .int .i64 q.move, .slice da dn dc, .slice la ln lc], .box b7 [.int .i64 s.val, .bool s.set], .box b8 zHead], [], []⟩) ?_ ?_
  · repeat' (first | refine O_nil ?_ | refine A_seq ?_ | refine A_region ?_ | refine A_block ?_ | (show opsA _ _ _ _ _ _ _; refine O_ev WideF.wide rfl (Ev_pure rfl) rfl rfl ?_))
    refine A_loopu (fun m s' => ∃ (i : Nat) (ba : Option Addr) (bn bc : Nat) (p : List (List Value)), m = g.length - i ∧ i ≤ g.length ∧ p.length = bn ∧ p = ((g.take i).map Layr.rev).map irow ∧ s' = ⟨121, (14, .int .i64 i) :: (13, .slice ba bn bc) :: (12, .int .i64 g.length) :: (10, .slice ya g.length yc) :: (11, .slice (some ⟨sb, 0, none⟩) (g.length + 1) sc) :: cEnv rev k b4 b7 b8, H1, [.row (.slice ba bn bc) 1 p, .row (.slice (some ⟨sb, 0, none⟩) (g.length + 1) sc) 2 ((g.map Layr.st ++ [old]).map stc), .box b4 [.slice pa pn pc, .int .i64 q.ins, .int .i64 q.move, .slice da dn dc, .slice la ln lc], .box b7 [.int .i64 s.val, .bool s.set], .box b8 zHead], [], []⟩) ?_ ?_
    · exact Shift.to ⟨_, 0, none, 0, 0, [], rfl, by omega, rfl, by simp, rfl⟩ ⟨rfl, rfl, rfl, ⟨rfl, rfl, rfl, rfl, rfl, rfl, rfl, rfl, rfl, rfl, rfl, trivial⟩, Own.subi [0, 1, 2, 3, 4] (by decide) rfl rfl⟩
    · rintro m s' ⟨i, ba, bn, bc, p, rfl, hi, hpn, hpp, rfl⟩
      have hpl : p.length = i := by rw [hpp]; simp; omega
      by_cases hlt : i < g.length
      · obtain ⟨b', o, y, rfl, hyi, hc⟩ := hy.atm i hlt
        unfold lrow at hc
        repeat' (first | (refine O_ev WideF.wide rfl (Ev_loadH1 rfl (hc 0 _ rfl)) rfl rfl ?_) | refine O_nil ?_ | refine A_seq ?_ | refine A_region ?_ | refine A_skip ?_ | refine A_block ?_ | (show opsA _ _ _ _ _ _ _; first | refine O_ev WideF.wide rfl (Ev_pure rfl) rfl rfl ?_ | (show opsA _ _ _ _ (⟨_, .indexAddr _ _ _, _, _, _, _⟩ :: _) _ _; refine O_ev WideF.wide rfl (Ev_indexAddr rfl rfl (by omega) (by omega)) rfl rfl ?_) | (show opsA _ _ _ _ (⟨_, .fieldAddr _ _ _, _, _, _, _⟩ :: _) _ _; refine O_ev WideF.wide rfl (Ev_fieldAddr rfl rfl rfl) rfl rfl ?_) | (show opsA _ _ _ _ (⟨_, .call _, _, _, _, _⟩ :: _) _ _; (refine O_f1 (O_ef rfl (Ef_appendR WideF.wide rfl rfl rfl rfl rfl (by simp; omega) (by simp; omega) rfl ?_)); intro a cp)) | (show opsA _ _ _ _ (⟨_, .buildSlice _ _ _, _, _, _, _⟩ :: _) _ _; (refine O_ef rfl (Ef_build11 WideF.wide rfl rfl rfl ?_); intro b)) | (show opsA _ _ _ _ (⟨_, .binOp _ _ _ _ _, _, _, _, _⟩ :: _) _ _; refine O_ev WideF.wide rfl (Ev_add rfl rfl (wi64 (by omega))) rfl rfl ?_)) | (show wpA _ _ _ (.cond _ _ _) _ _ _ _; (refine A_if rfl (fun h => ?_) (fun h => ?_) <;> try (exfalso; omega))))
        refine Shift.to ⟨_, ?_, i + 1, _, _, _, p ++ [irow y.rev], rfl, by omega, rfl, by rw [take_get hyi, hpp]; simp, rfl⟩ ⟨rfl, rfl, rfl, ⟨rfl, rfl, rfl, rfl, rfl, rfl, rfl, rfl, rfl, rfl, rfl, trivial⟩, Own.subi [0, 1, 2, 3, 4] (by decide) rfl rfl⟩
        omega
      · have hin : g.length = i := by omega
        rw [List.take_of_length_le (by omega)] at hpp
        subst hpp
        repeat' (first | refine O_nil ?_ | refine A_seq ?_ | refine A_region ?_ | (show opsA _ _ _ _ _ _ _; refine O_ev WideF.wide rfl (Ev_pure rfl) rfl rfl ?_) | (show wpA _ _ _ (.exit _) _ _ _ _; refine A_exit rfl ?_) | (show wpA _ _ _ (.cond _ _ _) _ _ _ _; (refine A_if rfl (fun h => ?_) (fun h => ?_) <;> try (exfalso; omega))))
        exact Shift.to ⟨ba, bn, bc, rfl⟩ ⟨rfl, rfl, rfl, ⟨rfl, rfl, rfl, rfl, rfl, rfl, rfl, rfl, rfl, rfl, trivial⟩, Own.subi [0, 1, 2, 3, 4] (by decide) rfl rfl⟩
  rintro s' ⟨ba, bn, bc, rfl⟩
  refine A_rowaddr (q := 0) rfl ?_
  intro f1 f2 f3 f4 f5
  simp only [List.length_map] at f1 f2
  subst f1
  have hgetn : ((g.map Layr.st ++ [old]).map stc)[g.length]? = some (stc old) := by simp
  have hgetn' : ((g.map Layr.st ++ [old]).map stc)[g.length]? = some [.int .i64 old.val, .bool old.set] := hgetn
  have hset : ((g.map Layr.st ++ [old]).map stc).set g.length (stc s) = (g.map Layr.st ++ [s]).map stc := by
    rw [List.map_append, List.map_append, List.set_append_right _ _ (by simp)]; simp
  have eqo := eq_lstate old s
  unfold stc at eqo
  have hg0 : g = [] ↔ (g.length : Int) = 0 := by rw [← List.length_eq_zero_iff]; omega
  have hLay : ∀ Hx ra rn rc sa sn sc R S z, HLe H1 Hx → HRow Hx ra rn rc 1 (R.map irow) → HRow Hx sa sn sc 2 (S.map stc) → S.length = R.length + 1 → S[R.length]? = some z → R.length < 1073741824 → Fn Try.prog 50 [.agg [.slice pa pn pc, .int .i64 q.ins, .int .i64 q.move, .slice da dn dc, .slice la ln lc].toArray, .int .i64 k, .slice ra rn rc, .slice sa sn sc] Hx [] (HeadIs (layH q k R S z)) := fun Hx ra rn rc sa sn sc R S z hx hR hS hn hz hr => layered_fn (hh1.mono hx) hR hS hn hz hq.inc (by omega) hr
  refine A_seq ?_
  refine A_cutu (fun s' => ¬ old = s ∧ ¬ (rev = 0 ∨ (q.ins = rev ∧ g = [])) ∧ ¬ g.getLast?.map Layr.rev = some rev ∧ ¬ 64 ≤ q.layers.length ∧ s' = ⟨121, (13, .slice ba g.length bc) :: (12, .int .i64 g.length) :: (10, .slice ya g.length yc) :: (11, .slice (some ⟨sb, 0, none⟩) (g.length + 1) sc) :: cEnv rev k b4 b7 b8, H1, [.row (.slice ba g.length bc) 1 ((g.map Layr.rev).map irow), .row (.slice (some ⟨sb, 0, none⟩) (g.length + 1) sc) 2 ((g.map Layr.st ++ [old]).map stc), .box b4 [.slice pa pn pc, .int .i64 q.ins, .int .i64 q.move, .slice da dn dc, .slice la ln lc], .box b7 [.int .i64 s.val, .bool s.set], .box b8 zHead], [], []⟩) ?_ ?_
  · by_cases hsm : old = s
    · repeat' (first | (refine A_drawL WideF.wide (.q 0 (.q 1 (.q 2 (.q 3 (.q 4 (.q 5 (.q 6 (.done [])))))))) [] (by decide +kernel) ?_) | (refine D_ev rfl (Ev_loadR (q := 1) rfl rfl hgetn (by omega) rfl) rfl rfl ?_) | (refine D_ev rfl (Ev_eqS rfl rfl Try.eqGuardType45 eqo) rfl rfl ?_) | refine O_nil ?_ | refine A_seq ?_ | refine A_region ?_ | refine A_skip ?_ | refine A_ret ?_ | refine A_block ?_ | (show drJ _ _ _ _ _ _ _ (.q _ _) _; refine D_q rfl ?_) | (show drJ _ _ _ _ _ _ _ (.done _) _; refine D_done ?_; simp only [List.cons_append, List.nil_append]) | (show drQ _ _ _ _ _ _; first | refine D_ev rfl (Ev_pure rfl) rfl rfl ?_ | (show drQ _ _ _ ⟨_, .load _ _, _, _, _, _⟩ _ _; refine D_ev rfl (Ev_loadB (i := 3) rfl rfl rfl) rfl rfl ?_) | (show drQ _ _ _ ⟨_, .indexAddr _ _ _, _, _, _, _⟩ _ _; refine D_ev rfl (Ev_indexAddr rfl rfl (by omega) (by omega)) rfl rfl ?_)) | (show opsA _ _ _ _ _ _ _; first | (refine O_split rfl rfl (fun h => ?_) (fun h => ?_) <;> try (exfalso; omega)) | refine O_ev WideF.wide rfl (Ev_pure rfl) rfl rfl ?_ | (show opsA _ _ _ _ (⟨_, .load _ _, _, _, _, _⟩ :: _) _ _; first | refine O_ev WideF.wide rfl (Ev_loadB1 (i := 2) rfl rfl rfl) rfl rfl ?_ | refine O_ev WideF.wide rfl (Ev_loadB (i := 2) rfl rfl rfl) rfl rfl ?_ | refine O_ev WideF.wide rfl (Ev_loadB (i := 3) rfl rfl rfl) rfl rfl ?_) | (show opsA _ _ _ _ (⟨_, .indexAddr _ _ _, _, _, _, _⟩ :: _) _ _; refine O_ev WideF.wide rfl (Ev_indexAddr rfl rfl (by omega) (by omega)) rfl rfl ?_) | (show opsA _ _ _ _ (⟨_, .fieldAddr _ _ _, _, _, _, _⟩ :: _) _ _; refine O_ev WideF.wide rfl (Ev_fieldAddr rfl rfl rfl) rfl rfl ?_) | (show opsA _ _ _ _ (⟨_, .call _, _, _, _, _⟩ :: _) _ _; refine O_ev WideF.wide rfl (Ev_llen rfl) rfl rfl ?_) | (show opsA _ _ _ _ (⟨_, .binOp _ _ _ _ _, _, _, _, _⟩ :: _) _ _; refine O_ev WideF.wide rfl (Ev_sub rfl rfl (wi64 (by omega))) rfl rfl ?_) | (show opsA _ _ _ _ (⟨_, .build _ _, _, _, _, _⟩ :: _) _ _; refine O_ev WideF.wide rfl (Ev_build (vs := []) trivial rfl) rfl rfl ?_) | (show opsA _ _ _ _ (⟨_, .store _ _ _, _, _, _, _⟩ :: _) _ _; refine O_f4 (O_ef rfl (Ef_storew WideF.wide rfl rfl rfl rfl rfl ?_))) | refine O_skip WideF.wide rfl rfl rfl ?_) | (show wpA _ _ _ (.cond _ _ _) _ _ _ _; first | (refine A_if rfl (fun h => ?_) (fun h => ?_) <;> try (exfalso; omega)) | refine A_iftrue rfl ?_ | refine A_iffalse rfl ?_))
      · refine End_e (RetT2 rfl rfl (i := 0) rfl rfl rfl) ?_
        exact ⟨⟨_, q, 0, rfl, hh1, hspec _ _ (fun _ => ⟨rfl, rfl⟩) (fun h => absurd hsm h) (fun h => absurd hsm h)⟩, rfl⟩
      all_goals exact absurd hsm (by assumption)
    by_cases hC1 : rev = 0 ∨ (q.ins = rev ∧ g = [])
    · have hC : rev = 0 ∨ (q.ins = rev ∧ (g.length : Int) = 0) := hC1.imp id fun h => ⟨h.1, hg0.1 h.2⟩
      have hsG : setG rev q.ins k s old g = g := by unfold setG; rw [if_pos hC1]
      have hks := hlay (g.map Layr.rev) (g.map Layr.st ++ [s]) s hsok
      rw [newL_same (z := s) hgk hgo] at hks
      repeat' (first | (refine A_drawL WideF.wide (.q 0 (.q 1 (.q 2 (.q 3 (.q 4 (.q 5 (.q 6 (.done [])))))))) [] (by decide +kernel) ?_) | (refine D_ev rfl (Ev_loadR (q := 1) rfl rfl hgetn (by omega) rfl) rfl rfl ?_) | (refine D_ev rfl (Ev_eqS rfl rfl Try.eqGuardType45 eqo) rfl rfl ?_) | (refine O_f1 (O_ef rfl (Ef_storeR WideF.wide (dd := 0) (i := g.length) (cs := stc old) (cs' := stc s) rfl rfl hgetn (by omega) rfl (by intro u hu; simp at hu; rcases hu with rfl | rfl <;> rfl) (by simp) rfl ?_)); rw [hset]) | (refine O_freeze (stc_one _) ?_; intro H2 hle2 rS; refine O_freeze (irow_one _) ?_; intro H3 hle3 rR; refine O_ef rfl (Ef_call (I := []) WideF.wide (hLay H3 _ _ _ _ _ _ (g.map Layr.rev) (g.map Layr.st ++ [s]) s (hle2.trans hle3) rR (rS.mono hle3) (by simp) (by simp) (by simp; omega)) ⟨rfl, rfl, rfl, rfl, trivial⟩ rfl ?_); rintro v H4 I4 hle4 ⟨⟨cs4, rfl, hcs4⟩, rfl⟩; obtain ⟨pa4, pn4, pc4, da4, dn4, dc4, la4, ln4, lc4, rfl, _, _, _⟩ := hcs4.ex) | refine O_nil ?_ | refine A_seq ?_ | refine A_region ?_ | refine A_ret ?_ | refine A_block ?_ | (show drJ _ _ _ _ _ _ _ (.q _ _) _; refine D_q rfl ?_) | (show drJ _ _ _ _ _ _ _ (.done _) _; refine D_done ?_; simp only [List.cons_append, List.nil_append]) | (show drQ _ _ _ _ _ _; first | refine D_ev rfl (Ev_pure rfl) rfl rfl ?_ | (show drQ _ _ _ ⟨_, .load _ _, _, _, _, _⟩ _ _; refine D_ev rfl (Ev_loadB (i := 3) rfl rfl rfl) rfl rfl ?_) | (show drQ _ _ _ ⟨_, .indexAddr _ _ _, _, _, _, _⟩ _ _; refine D_ev rfl (Ev_indexAddr rfl rfl (by omega) (by omega)) rfl rfl ?_)) | (show opsA _ _ _ _ _ _ _; first | (refine O_split rfl rfl (fun h => ?_) (fun h => ?_) <;> try (exfalso; omega)) | refine O_ev WideF.wide rfl (Ev_pure rfl) rfl rfl ?_ | (show opsA _ _ _ _ (⟨_, .load _ _, _, _, _, _⟩ :: _) _ _; first | refine O_ev WideF.wide rfl (Ev_loadB1 (i := 2) rfl rfl rfl) rfl rfl ?_ | refine O_ev WideF.wide rfl (Ev_loadB (i := 2) rfl rfl rfl) rfl rfl ?_ | refine O_ev WideF.wide rfl (Ev_loadB (i := 3) rfl rfl rfl) rfl rfl ?_) | (show opsA _ _ _ _ (⟨_, .indexAddr _ _ _, _, _, _, _⟩ :: _) _ _; refine O_ev WideF.wide rfl (Ev_indexAddr rfl rfl (by omega) (by omega)) rfl rfl ?_) | (show opsA _ _ _ _ (⟨_, .fieldAddr _ _ _, _, _, _, _⟩ :: _) _ _; refine O_ev WideF.wide rfl (Ev_fieldAddr rfl rfl rfl) rfl rfl ?_) | (show opsA _ _ _ _ (⟨_, .store _ _ _, _, _, _, _⟩ :: _) _ _; first | refine O_f2 (O_ef rfl (Ef_storew WideF.wide rfl rfl rfl rfl rfl ?_)) | refine O_f4 (O_ef rfl (Ef_storew WideF.wide rfl rfl rfl rfl rfl ?_))) | refine O_skip WideF.wide rfl rfl rfl ?_) | (show wpA _ _ _ (.cond _ _ _) _ _ _ _; first | (refine A_if rfl (fun h => ?_) (fun h => ?_) <;> try (exfalso; omega)) | refine A_iftrue rfl ?_))
      all_goals try (exfalso; omega)
      all_goals try exact absurd (by assumption) hsm
      all_goals
        refine End_e (RetT2 rfl rfl (i := 0) rfl rfl rfl) ?_
        refine ⟨⟨_, _, 0, rfl, hcs4, hspec _ _ (fun h => absurd h hsm) (fun _ hE => ?_) (fun _ _ => ⟨by rw [hsG]; exact hks, rfl⟩)⟩, rfl⟩
        rw [decide_eq_false hsm, decide_eq_true hC1] at hE
        simp at hE
    have hC : ¬ (rev = 0 ∨ (q.ins = rev ∧ (g.length : Int) = 0)) := fun h => hC1 (h.imp id fun h => ⟨h.1, hg0.2 h.2⟩)
    by_cases hlast : g.getLast?.map Layr.rev = some rev
    · obtain ⟨g0, y, hgy⟩ : ∃ g0 y, g = g0 ++ [y] := by
        cases hgr : g.reverse with
        | nil => have : g = [] := by simpa using hgr
                 rw [this] at hlast; simp at hlast
        | cons z r => exact ⟨r.reverse, z, by have := congrArg List.reverse hgr; simpa using this⟩
      have hyr : y.rev = rev := by rw [hgy] at hlast; simpa using hlast
      have n1 : g.length = g0.length + 1 := by rw [hgy]; simp
      obtain ⟨yb, yo, y', hya, hy', hc⟩ := hy.atm g0.length (by omega)
      have hyy : y' = y := by rw [hgy] at hy'; simpa using hy'.symm
      subst hya hyy
      unfold lrow at hc
      have hR0 : (g0.map Layr.rev).map irow = ((g.map Layr.rev).map irow).take g0.length := by rw [hgy]; simp
      have hS0 : y'.st = s → (g0.map Layr.st ++ [s]).map stc = ((g.map Layr.st ++ [s]).map stc).take g.length := fun h => by
        have e : ((g.map Layr.st ++ [s]).map stc) = (g0.map Layr.st ++ [s]).map stc ++ [stc s] := by rw [hgy]; simp [h]
        rw [e, List.take_append_of_le_length (by simp; omega), List.take_of_length_le (by simp; omega)]
      have hget2 : ((g.map Layr.st ++ [s]).map stc)[g0.length]? = some (stc y'.st) := by rw [hgy]; simp
      have hget2' : ((g.map Layr.st ++ [s]).map stc)[g0.length]? = some [.int .i64 y'.st.val, .bool y'.st.set] := hget2
      have hsub : IntKind.i64.wrap (((g.length : Nat) : Int) - 1) = (g0.length : Int) := by rw [show ((g.length : Nat) : Int) - 1 = (g0.length : Int) by omega]; exact wi64 (by omega)
      have eqy := eq_lstate y'.st s
      unfold stc at eqy
      have hksA := hlay (g0.map Layr.rev) (g0.map Layr.st ++ [s]) s hsok
      rw [newL_same (z := s) (fun z hz => hgk z (by rw [hgy]; simp [hz])) (fun z hz => hgo z (by rw [hgy]; simp [hz]))] at hksA
      have hksB := hlay (g.map Layr.rev) (g.map Layr.st ++ [s]) s hsok
      rw [newL_same (z := s) hgk hgo] at hksB
      by_cases hys : y'.st = s
      · have hsG : setG rev q.ins k s old g = g0 := by
          unfold setG; rw [if_neg hC1, if_pos hlast, if_pos (by rw [hgy]; simp [hys]), hgy]; simp
        repeat' (first | (refine O_ev WideF.wide rfl (Ev_sub rfl rfl hsub) rfl rfl ?_) | (refine D_ev rfl (Ev_sub rfl rfl hsub) rfl rfl ?_) | (refine O_ev WideF.wide rfl (Ev_loadH1 rfl (hc 0 _ rfl)) rfl rfl ?_) | (refine A_drawL WideF.wide (.q 0 (.q 1 (.q 2 (.q 3 (.q 4 (.q 5 (.q 6 (.done [])))))))) [] (by decide +kernel) ?_) | (refine A_drawL WideF.wide (.q 0 (.q 1 (.q 2 (.q 3 (.q 4 (.q 5 (.q 6 (.q 7 (.q 8 (.done [])))))))))) [] (by decide +kernel) ?_) | (refine D_ev rfl (Ev_loadR (q := 0) rfl rfl hget2 (by omega) rfl) rfl rfl ?_) | (refine D_ev rfl (Ev_eqS rfl rfl Try.eqGuardType45 eqy) rfl rfl ?_) | (refine D_ev rfl (Ev_lsliceh rfl rfl (by omega) (by omega)) rfl rfl ?_) | (refine A_drawL WideF.wide (.q 0 (.q 1 (.q 2 (.q 3 (.q 4 (.q 5 (.q 6 (.done [])))))))) [] (by decide +kernel) ?_) | (refine D_ev rfl (Ev_loadR (q := 1) rfl rfl hgetn (by omega) rfl) rfl rfl ?_) | (refine D_ev rfl (Ev_eqS rfl rfl Try.eqGuardType45 eqo) rfl rfl ?_) | (refine O_f1 (O_ef rfl (Ef_storeR WideF.wide (dd := 0) (i := g.length) (cs := stc old) (cs' := stc s) rfl rfl hgetn (by omega) rfl (by intro u hu; simp at hu; rcases hu with rfl | rfl <;> rfl) (by simp) rfl ?_)); rw [hset]) | (refine O_freeze (stc_one _) ?_; intro H2 hle2 rS; refine O_freeze (irow_one _) ?_; intro H3 hle3 rR; refine O_ef rfl (Ef_call (I := []) WideF.wide (hLay H3 _ _ _ _ _ _ (g0.map Layr.rev) (g0.map Layr.st ++ [s]) s (hle2.trans hle3) ((rR.upto (j := g0.length) (by omega)).cong hR0) (((rS.mono hle3).upto (j := g.length) (by omega)).cong (hS0 hys)) (by simp) (by simp) (by simp; omega)) ⟨rfl, rfl, rfl, rfl, trivial⟩ rfl ?_); rintro v H4 I4 hle4 ⟨⟨cs4, rfl, hcs4⟩, rfl⟩; obtain ⟨pa4, pn4, pc4, da4, dn4, dc4, la4, ln4, lc4, rfl, _, _, _⟩ := hcs4.ex) | refine O_nil ?_ | refine A_seq ?_ | refine A_region ?_ | refine A_skip ?_ | refine A_ret ?_ | refine A_block ?_ | (show drJ _ _ _ _ _ _ _ (.q _ _) _; refine D_q rfl ?_) | (show drJ _ _ _ _ _ _ _ (.done _) _; refine D_done ?_; simp only [List.cons_append, List.nil_append]) | (show drQ _ _ _ _ _ _; first | refine D_ev rfl (Ev_pure rfl) rfl rfl ?_ | (show drQ _ _ _ ⟨_, .load _ _, _, _, _, _⟩ _ _; refine D_ev rfl (Ev_loadB (i := 3) rfl rfl rfl) rfl rfl ?_) | (show drQ _ _ _ ⟨_, .indexAddr _ _ _, _, _, _, _⟩ _ _; refine D_ev rfl (Ev_indexAddr rfl rfl (by omega) (by omega)) rfl rfl ?_)) | (show opsA _ _ _ _ _ _ _; first | (refine O_split rfl rfl (fun h => ?_) (fun h => ?_) <;> try (exfalso; omega)) | refine O_ev WideF.wide rfl (Ev_pure rfl) rfl rfl ?_ | (show opsA _ _ _ _ (⟨_, .load _ _, _, _, _, _⟩ :: _) _ _; first | refine O_ev WideF.wide rfl (Ev_loadB1 (i := 2) rfl rfl rfl) rfl rfl ?_ | refine O_ev WideF.wide rfl (Ev_loadB (i := 2) rfl rfl rfl) rfl rfl ?_ | refine O_ev WideF.wide rfl (Ev_loadB (i := 3) rfl rfl rfl) rfl rfl ?_) | (show opsA _ _ _ _ (⟨_, .indexAddr _ _ _, _, _, _, _⟩ :: _) _ _; refine O_ev WideF.wide rfl (Ev_indexAddr rfl rfl (by omega) (by omega)) rfl rfl ?_) | (show opsA _ _ _ _ (⟨_, .fieldAddr _ _ _, _, _, _, _⟩ :: _) _ _; refine O_ev WideF.wide rfl (Ev_fieldAddr rfl rfl rfl) rfl rfl ?_) | (show opsA _ _ _ _ (⟨_, .store _ _ _, _, _, _, _⟩ :: _) _ _; first | refine O_f2 (O_ef rfl (Ef_storew WideF.wide rfl rfl rfl rfl rfl ?_)) | refine O_f4 (O_ef rfl (Ef_storew WideF.wide rfl rfl rfl rfl rfl ?_))) | refine O_skip WideF.wide rfl rfl rfl ?_) | (show wpA _ _ _ (.cond _ _ _) _ _ _ _; first | (refine A_if rfl (fun h => ?_) (fun h => ?_) <;> try (exfalso; omega)) | refine A_iffalse rfl ?_))
        all_goals try (exfalso; omega)
        all_goals try exact absurd (by assumption) hsm
        all_goals try exact absurd hys (by assumption)
        all_goals
          refine End_e (RetT2 rfl rfl (i := 0) rfl rfl rfl) ?_
          refine ⟨⟨_, _, 0, rfl, hcs4, hspec _ _ (fun h => absurd h hsm) (fun _ hE => ?_) (fun _ _ => ⟨by rw [hsG]; exact hksA, rfl⟩)⟩, rfl⟩
          rw [decide_eq_false hsm, decide_eq_true hlast] at hE
          simp at hE
      · have hsG : setG rev q.ins k s old g = g := by
          unfold setG; rw [if_neg hC1, if_pos hlast, if_neg (by rw [hgy]; simp [hys])]
        repeat' (first | (refine O_ev WideF.wide rfl (Ev_sub rfl rfl hsub) rfl rfl ?_) | (refine D_ev rfl (Ev_sub rfl rfl hsub) rfl rfl ?_) | (refine O_ev WideF.wide rfl (Ev_loadH1 rfl (hc 0 _ rfl)) rfl rfl ?_) | (refine A_drawL WideF.wide (.q 0 (.q 1 (.q 2 (.q 3 (.q 4 (.q 5 (.q 6 (.done [])))))))) [] (by decide +kernel) ?_) | (refine D_ev rfl (Ev_loadR (q := 0) rfl rfl hget2 (by omega) rfl) rfl rfl ?_) | (refine D_ev rfl (Ev_eqS rfl rfl Try.eqGuardType45 eqy) rfl rfl ?_) | (refine A_drawL WideF.wide (.q 0 (.q 1 (.q 2 (.q 3 (.q 4 (.q 5 (.q 6 (.done [])))))))) [] (by decide +kernel) ?_) | (refine D_ev rfl (Ev_loadR (q := 1) rfl rfl hgetn (by omega) rfl) rfl rfl ?_) | (refine D_ev rfl (Ev_eqS rfl rfl Try.eqGuardType45 eqo) rfl rfl ?_) | (refine O_f1 (O_ef rfl (Ef_storeR WideF.wide (dd := 0) (i := g.length) (cs := stc old) (cs' := stc s) rfl rfl hgetn (by omega) rfl (by intro u hu; simp at hu; rcases hu with rfl | rfl <;> rfl) (by simp) rfl ?_)); rw [hset]) | (refine O_freeze (stc_one _) ?_; intro H2 hle2 rS; refine O_freeze (irow_one _) ?_; intro H3 hle3 rR; refine O_ef rfl (Ef_call (I := []) WideF.wide (hLay H3 _ _ _ _ _ _ (g.map Layr.rev) (g.map Layr.st ++ [s]) s (hle2.trans hle3) rR (rS.mono hle3) (by simp) (by simp) (by simp; omega)) ⟨rfl, rfl, rfl, rfl, trivial⟩ rfl ?_); rintro v H4 I4 hle4 ⟨⟨cs4, rfl, hcs4⟩, rfl⟩; obtain ⟨pa4, pn4, pc4, da4, dn4, dc4, la4, ln4, lc4, rfl, _, _, _⟩ := hcs4.ex) | refine O_nil ?_ | refine A_seq ?_ | refine A_region ?_ | refine A_skip ?_ | refine A_ret ?_ | refine A_block ?_ | (show drJ _ _ _ _ _ _ _ (.q _ _) _; refine D_q rfl ?_) | (show drJ _ _ _ _ _ _ _ (.done _) _; refine D_done ?_; simp only [List.cons_append, List.nil_append]) | (show drQ _ _ _ _ _ _; first | refine D_ev rfl (Ev_pure rfl) rfl rfl ?_ | (show drQ _ _ _ ⟨_, .load _ _, _, _, _, _⟩ _ _; refine D_ev rfl (Ev_loadB (i := 3) rfl rfl rfl) rfl rfl ?_) | (show drQ _ _ _ ⟨_, .indexAddr _ _ _, _, _, _, _⟩ _ _; refine D_ev rfl (Ev_indexAddr rfl rfl (by omega) (by omega)) rfl rfl ?_)) | (show opsA _ _ _ _ _ _ _; first | (refine O_split rfl rfl (fun h => ?_) (fun h => ?_) <;> try (exfalso; omega)) | refine O_ev WideF.wide rfl (Ev_pure rfl) rfl rfl ?_ | (show opsA _ _ _ _ (⟨_, .load _ _, _, _, _, _⟩ :: _) _ _; first | refine O_ev WideF.wide rfl (Ev_loadB1 (i := 2) rfl rfl rfl) rfl rfl ?_ | refine O_ev WideF.wide rfl (Ev_loadB (i := 2) rfl rfl rfl) rfl rfl ?_ | refine O_ev WideF.wide rfl (Ev_loadB (i := 3) rfl rfl rfl) rfl rfl ?_) | (show opsA _ _ _ _ (⟨_, .indexAddr _ _ _, _, _, _, _⟩ :: _) _ _; refine O_ev WideF.wide rfl (Ev_indexAddr rfl rfl (by omega) (by omega)) rfl rfl ?_) | (show opsA _ _ _ _ (⟨_, .fieldAddr _ _ _, _, _, _, _⟩ :: _) _ _; refine O_ev WideF.wide rfl (Ev_fieldAddr rfl rfl rfl) rfl rfl ?_) | (show opsA _ _ _ _ (⟨_, .store _ _ _, _, _, _, _⟩ :: _) _ _; first | refine O_f2 (O_ef rfl (Ef_storew WideF.wide rfl rfl rfl rfl rfl ?_)) | refine O_f4 (O_ef rfl (Ef_storew WideF.wide rfl rfl rfl rfl rfl ?_))) | refine O_skip WideF.wide rfl rfl rfl ?_) | (show wpA _ _ _ (.cond _ _ _) _ _ _ _; first | (refine A_if rfl (fun h => ?_) (fun h => ?_) <;> try (exfalso; omega)) | refine A_iffalse rfl ?_))
        all_goals try (exfalso; omega)
        all_goals try exact absurd (by assumption) hsm
        all_goals try exact absurd (by assumption) hys
        all_goals
          refine End_e (RetT2 rfl rfl (i := 0) rfl rfl rfl) ?_
          refine ⟨⟨_, _, 0, rfl, hcs4, hspec _ _ (fun h => absurd h hsm) (fun _ hE => ?_) (fun _ _ => ⟨by rw [hsG]; exact hksB, rfl⟩)⟩, rfl⟩
          rw [decide_eq_false hsm, decide_eq_true hlast] at hE
          simp at hE
    · by_cases hgl0 : g.length = 0
      · by_cases h64 : 64 ≤ q.layers.length
        · repeat' (first | (refine A_drawL WideF.wide (.q 0 (.q 1 (.q 2 (.q 3 (.q 4 (.q 5 (.q 6 (.done [])))))))) [] (by decide +kernel) ?_) | (refine D_ev rfl (Ev_loadR (q := 1) rfl rfl hgetn (by omega) rfl) rfl rfl ?_) | (refine D_ev rfl (Ev_eqS rfl rfl Try.eqGuardType45 eqo) rfl rfl ?_) | refine O_nil ?_ | refine A_seq ?_ | refine A_region ?_ | refine A_ret ?_ | refine A_block ?_ | (show drJ _ _ _ _ _ _ _ (.q _ _) _; refine D_q rfl ?_) | (show drJ _ _ _ _ _ _ _ (.done _) _; refine D_done ?_; simp only [List.cons_append, List.nil_append]) | (show drQ _ _ _ _ _ _; first | refine D_ev rfl (Ev_pure rfl) rfl rfl ?_ | (show drQ _ _ _ ⟨_, .load _ _, _, _, _, _⟩ _ _; refine D_ev rfl (Ev_loadB (i := 3) rfl rfl rfl) rfl rfl ?_) | (show drQ _ _ _ ⟨_, .indexAddr _ _ _, _, _, _, _⟩ _ _; refine D_ev rfl (Ev_indexAddr rfl rfl (by omega) (by omega)) rfl rfl ?_)) | (show opsA _ _ _ _ _ _ _; first | (refine O_split rfl rfl (fun h => ?_) (fun h => ?_) <;> try (exfalso; omega)) | refine O_ev WideF.wide rfl (Ev_pure rfl) rfl rfl ?_ | (show opsA _ _ _ _ (⟨_, .load _ _, _, _, _, _⟩ :: _) _ _; first | refine O_ev WideF.wide rfl (Ev_loadB1 (i := 2) rfl rfl rfl) rfl rfl ?_ | refine O_ev WideF.wide rfl (Ev_loadB (i := 2) rfl rfl rfl) rfl rfl ?_) | (show opsA _ _ _ _ (⟨_, .fieldAddr _ _ _, _, _, _, _⟩ :: _) _ _; refine O_ev WideF.wide rfl (Ev_fieldAddr rfl rfl rfl) rfl rfl ?_) | (show opsA _ _ _ _ (⟨_, .call _, _, _, _, _⟩ :: _) _ _; refine O_ev WideF.wide rfl (Ev_llen rfl) rfl rfl ?_) | (show opsA _ _ _ _ (⟨_, .build _ _, _, _, _, _⟩ :: _) _ _; refine O_ev WideF.wide rfl (Ev_build (vs := []) trivial rfl) rfl rfl ?_) | (show opsA _ _ _ _ (⟨_, .store _ _ _, _, _, _, _⟩ :: _) _ _; refine O_f4 (O_ef rfl (Ef_storew WideF.wide rfl rfl rfl rfl rfl ?_))) | refine O_skip WideF.wide rfl rfl rfl ?_) | (show wpA _ _ _ (.cond _ _ _) _ _ _ _; first | (refine A_if rfl (fun h => ?_) (fun h => ?_) <;> try (exfalso; omega)) | refine A_iffalse rfl ?_))
          all_goals try (exfalso; omega)
          all_goals try exact absurd (by assumption) hsm
          all_goals
            refine End_e (RetT2 rfl rfl (i := 0) rfl rfl rfl) ?_
            refine ⟨⟨_, Head.none, 9, rfl, zHead_none _, hspec _ _ (fun h => absurd h hsm) (fun _ _ => ⟨rfl, rfl⟩) (fun _ h => ?_)⟩, rfl⟩
            exfalso
            rw [decide_eq_false hsm, decide_eq_false hC1, decide_eq_false hlast, decide_eq_true h64] at h
            cases h
        · repeat' (first | (refine A_drawL WideF.wide (.q 0 (.q 1 (.q 2 (.q 3 (.q 4 (.q 5 (.q 6 (.done [])))))))) [] (by decide +kernel) ?_) | (refine D_ev rfl (Ev_loadR (q := 1) rfl rfl hgetn (by omega) rfl) rfl rfl ?_) | (refine D_ev rfl (Ev_eqS rfl rfl Try.eqGuardType45 eqo) rfl rfl ?_) | refine O_nil ?_ | refine A_seq ?_ | refine A_region ?_ | refine A_skip ?_ | refine A_ret ?_ | refine A_block ?_ | (show drJ _ _ _ _ _ _ _ (.q _ _) _; refine D_q rfl ?_) | (show drJ _ _ _ _ _ _ _ (.done _) _; refine D_done ?_; simp only [List.cons_append, List.nil_append]) | (show drQ _ _ _ _ _ _; first | refine D_ev rfl (Ev_pure rfl) rfl rfl ?_ | (show drQ _ _ _ ⟨_, .load _ _, _, _, _, _⟩ _ _; refine D_ev rfl (Ev_loadB (i := 3) rfl rfl rfl) rfl rfl ?_) | (show drQ _ _ _ ⟨_, .indexAddr _ _ _, _, _, _, _⟩ _ _; refine D_ev rfl (Ev_indexAddr rfl rfl (by omega) (by omega)) rfl rfl ?_)) | (show opsA _ _ _ _ _ _ _; first | (refine O_split rfl rfl (fun h => ?_) (fun h => ?_) <;> try (exfalso; omega)) | refine O_ev WideF.wide rfl (Ev_pure rfl) rfl rfl ?_ | (show opsA _ _ _ _ (⟨_, .load _ _, _, _, _, _⟩ :: _) _ _; first | refine O_ev WideF.wide rfl (Ev_loadB1 (i := 2) rfl rfl rfl) rfl rfl ?_ | refine O_ev WideF.wide rfl (Ev_loadB (i := 2) rfl rfl rfl) rfl rfl ?_) | (show opsA _ _ _ _ (⟨_, .fieldAddr _ _ _, _, _, _, _⟩ :: _) _ _; refine O_ev WideF.wide rfl (Ev_fieldAddr rfl rfl rfl) rfl rfl ?_) | (show opsA _ _ _ _ (⟨_, .call _, _, _, _, _⟩ :: _) _ _; refine O_ev WideF.wide rfl (Ev_llen rfl) rfl rfl ?_) | (show opsA _ _ _ _ (⟨_, .store _ _ _, _, _, _, _⟩ :: _) _ _; refine O_f4 (O_ef rfl (Ef_storew WideF.wide rfl rfl rfl rfl rfl ?_))) | refine O_skip WideF.wide rfl rfl rfl ?_) | (show wpA _ _ _ (.cond _ _ _) _ _ _ _; first | (refine A_if rfl (fun h => ?_) (fun h => ?_) <;> try (exfalso; omega)) | refine A_iffalse rfl ?_))
          all_goals try (exfalso; omega)
          all_goals try exact absurd (by assumption) hsm
          all_goals exact Shift.to ⟨hsm, hC1, hlast, h64, rfl⟩ ⟨rfl, rfl, rfl, ⟨rfl, rfl, rfl, rfl, rfl, rfl, rfl, rfl, rfl, rfl, trivial⟩, Own.subi [0, 1, 2, 3, 4] (by decide) rfl rfl⟩
      · obtain ⟨m0, hm0⟩ : ∃ m0, g.length = m0 + 1 := ⟨g.length - 1, by omega⟩
        obtain ⟨yb, yo, z, hya, hz, hc⟩ := hy.atm m0 (by omega)
        subst hya
        unfold lrow at hc
        have hzr : ¬ z.rev = rev := fun h => hlast (by
          rw [List.getLast?_eq_getElem?, show g.length - 1 = m0 by omega, hz]
          simp [h])
        have hsub : IntKind.i64.wrap (((g.length : Nat) : Int) - 1) = (m0 : Int) := by rw [show ((g.length : Nat) : Int) - 1 = (m0 : Int) by omega]; exact wi64 (by omega)
        by_cases h64 : 64 ≤ q.layers.length
        · repeat' (first | (refine O_ev WideF.wide rfl (Ev_sub rfl rfl hsub) rfl rfl ?_) | (refine O_ev WideF.wide rfl (Ev_loadH1 rfl (hc 0 _ rfl)) rfl rfl ?_) | (refine A_drawL WideF.wide (.q 0 (.q 1 (.q 2 (.q 3 (.q 4 (.q 5 (.q 6 (.done [])))))))) [] (by decide +kernel) ?_) | (refine D_ev rfl (Ev_loadR (q := 1) rfl rfl hgetn (by omega) rfl) rfl rfl ?_) | (refine D_ev rfl (Ev_eqS rfl rfl Try.eqGuardType45 eqo) rfl rfl ?_) | refine O_nil ?_ | refine A_seq ?_ | refine A_region ?_ | refine A_ret ?_ | refine A_block ?_ | (show drJ _ _ _ _ _ _ _ (.q _ _) _; refine D_q rfl ?_) | (show drJ _ _ _ _ _ _ _ (.done _) _; refine D_done ?_; simp only [List.cons_append, List.nil_append]) | (show drQ _ _ _ _ _ _; first | refine D_ev rfl (Ev_pure rfl) rfl rfl ?_ | (show drQ _ _ _ ⟨_, .load _ _, _, _, _, _⟩ _ _; refine D_ev rfl (Ev_loadB (i := 3) rfl rfl rfl) rfl rfl ?_) | (show drQ _ _ _ ⟨_, .indexAddr _ _ _, _, _, _, _⟩ _ _; refine D_ev rfl (Ev_indexAddr rfl rfl (by omega) (by omega)) rfl rfl ?_)) | (show opsA _ _ _ _ _ _ _; first | (refine O_split rfl rfl (fun h => ?_) (fun h => ?_) <;> try (exfalso; omega)) | refine O_ev WideF.wide rfl (Ev_pure rfl) rfl rfl ?_ | (show opsA _ _ _ _ (⟨_, .load _ _, _, _, _, _⟩ :: _) _ _; first | refine O_ev WideF.wide rfl (Ev_loadB1 (i := 2) rfl rfl rfl) rfl rfl ?_ | refine O_ev WideF.wide rfl (Ev_loadB (i := 2) rfl rfl rfl) rfl rfl ?_) | (show opsA _ _ _ _ (⟨_, .indexAddr _ _ _, _, _, _, _⟩ :: _) _ _; refine O_ev WideF.wide rfl (Ev_indexAddr rfl rfl (by omega) (by omega)) rfl rfl ?_) | (show opsA _ _ _ _ (⟨_, .fieldAddr _ _ _, _, _, _, _⟩ :: _) _ _; refine O_ev WideF.wide rfl (Ev_fieldAddr rfl rfl rfl) rfl rfl ?_) | (show opsA _ _ _ _ (⟨_, .call _, _, _, _, _⟩ :: _) _ _; refine O_ev WideF.wide rfl (Ev_llen rfl) rfl rfl ?_) | (show opsA _ _ _ _ (⟨_, .build _ _, _, _, _, _⟩ :: _) _ _; refine O_ev WideF.wide rfl (Ev_build (vs := []) trivial rfl) rfl rfl ?_) | (show opsA _ _ _ _ (⟨_, .store _ _ _, _, _, _, _⟩ :: _) _ _; refine O_f4 (O_ef rfl (Ef_storew WideF.wide rfl rfl rfl rfl rfl ?_))) | refine O_skip WideF.wide rfl rfl rfl ?_) | (show wpA _ _ _ (.cond _ _ _) _ _ _ _; first | (refine A_if rfl (fun h => ?_) (fun h => ?_) <;> try (exfalso; omega)) | refine A_iffalse rfl ?_))
          all_goals try (exfalso; omega)
          all_goals try exact absurd (by assumption) hsm
          all_goals
            refine End_e (RetT2 rfl rfl (i := 0) rfl rfl rfl) ?_
            refine ⟨⟨_, Head.none, 9, rfl, zHead_none _, hspec _ _ (fun h => absurd h hsm) (fun _ _ => ⟨rfl, rfl⟩) (fun _ h => ?_)⟩, rfl⟩
            exfalso
            rw [decide_eq_false hsm, decide_eq_false hC1, decide_eq_false hlast, decide_eq_true h64] at h
            cases h
        · repeat' (first | (refine O_ev WideF.wide rfl (Ev_sub rfl rfl hsub) rfl rfl ?_) | (refine O_ev WideF.wide rfl (Ev_loadH1 rfl (hc 0 _ rfl)) rfl rfl ?_) | (refine A_drawL WideF.wide (.q 0 (.q 1 (.q 2 (.q 3 (.q 4 (.q 5 (.q 6 (.done [])))))))) [] (by decide +kernel) ?_) | (refine D_ev rfl (Ev_loadR (q := 1) rfl rfl hgetn (by omega) rfl) rfl rfl ?_) | (refine D_ev rfl (Ev_eqS rfl rfl Try.eqGuardType45 eqo) rfl rfl ?_) | refine O_nil ?_ | refine A_seq ?_ | refine A_region ?_ | refine A_skip ?_ | refine A_ret ?_ | refine A_block ?_ | (show drJ _ _ _ _ _ _ _ (.q _ _) _; refine D_q rfl ?_) | (show drJ _ _ _ _ _ _ _ (.done _) _; refine D_done ?_; simp only [List.cons_append, List.nil_append]) | (show drQ _ _ _ _ _ _; first | refine D_ev rfl (Ev_pure rfl) rfl rfl ?_ | (show drQ _ _ _ ⟨_, .load _ _, _, _, _, _⟩ _ _; refine D_ev rfl (Ev_loadB (i := 3) rfl rfl rfl) rfl rfl ?_) | (show drQ _ _ _ ⟨_, .indexAddr _ _ _, _, _, _, _⟩ _ _; refine D_ev rfl (Ev_indexAddr rfl rfl (by omega) (by omega)) rfl rfl ?_)) | (show opsA _ _ _ _ _ _ _; first | (refine O_split rfl rfl (fun h => ?_) (fun h => ?_) <;> try (exfalso; omega)) | refine O_ev WideF.wide rfl (Ev_pure rfl) rfl rfl ?_ | (show opsA _ _ _ _ (⟨_, .load _ _, _, _, _, _⟩ :: _) _ _; first | refine O_ev WideF.wide rfl (Ev_loadB1 (i := 2) rfl rfl rfl) rfl rfl ?_ | refine O_ev WideF.wide rfl (Ev_loadB (i := 2) rfl rfl rfl) rfl rfl ?_) | (show opsA _ _ _ _ (⟨_, .indexAddr _ _ _, _, _, _, _⟩ :: _) _ _; refine O_ev WideF.wide rfl (Ev_indexAddr rfl rfl (by omega) (by omega)) rfl rfl ?_) | (show opsA _ _ _ _ (⟨_, .fieldAddr _ _ _, _, _, _, _⟩ :: _) _ _; refine O_ev WideF.wide rfl (Ev_fieldAddr rfl rfl rfl) rfl rfl ?_) | (show opsA _ _ _ _ (⟨_, .call _, _, _, _, _⟩ :: _) _ _; refine O_ev WideF.wide rfl (Ev_llen rfl) rfl rfl ?_) | (show opsA _ _ _ _ (⟨_, .store _ _ _, _, _, _, _⟩ :: _) _ _; refine O_f4 (O_ef rfl (Ef_storew WideF.wide rfl rfl rfl rfl rfl ?_))) | refine O_skip WideF.wide rfl rfl rfl ?_) | (show wpA _ _ _ (.cond _ _ _) _ _ _ _; first | (refine A_if rfl (fun h => ?_) (fun h => ?_) <;> try (exfalso; omega)) | refine A_iffalse rfl ?_))
          all_goals try (exfalso; omega)
          all_goals try exact absurd (by assumption) hsm
          all_goals exact Shift.to ⟨hsm, hC1, hlast, h64, rfl⟩ ⟨rfl, rfl, rfl, ⟨rfl, rfl, rfl, rfl, rfl, rfl, rfl, rfl, rfl, rfl, trivial⟩, Own.subi [0, 1, 2, 3, 4] (by decide) rfl rfl⟩
  rintro s' ⟨hsm, hC1, hlast, h64, rfl⟩
  have hsG : setG rev q.ins k s old g = g ++ [⟨rev, k, old.val, old.set⟩] := by unfold setG; rw [if_neg hC1, if_neg hlast]
  have hook : old.ok := hold ▸ getP_ok _ _
  have hks := hlay (g.map Layr.rev ++ [rev]) (g.map Layr.st ++ ([old] ++ [s])) s hsok
  rw [newL_app hgk hgo] at hks
  have hn1 : newL k [rev] ([old] ++ [s]) = [⟨rev, k, old.val, old.set⟩] := by
    show [(⟨rev, k, if old.set then old.val else 0, old.set⟩ : Layr)] = _
    rw [St.fix hook]
  rw [hn1, ← List.append_assoc] at hks
  have hRi : (g.map Layr.rev ++ [rev]).map irow = (g.map Layr.rev).map irow ++ [[.int .i64 rev]] := by simp [irow]
  have hSi : ((g.map Layr.st ++ [old]) ++ [s]).map stc = (g.map Layr.st ++ [old]).map stc ++ [[.int .i64 s.val, .bool s.set]] := by simp
  have hL4 := fun Hx ra rn rc sa sn sc (hx : HLe H1 Hx) (hR : HRow Hx ra rn rc 1 ((g.map Layr.rev).map irow ++ [[.int .i64 rev]])) (hS : HRow Hx sa sn sc 2 ((g.map Layr.st ++ [old]).map stc ++ [[.int .i64 s.val, .bool s.set]])) => hLay Hx ra rn rc sa sn sc (g.map Layr.rev ++ [rev]) ((g.map Layr.st ++ [old]) ++ [s]) s hx (hR.cong hRi) (hS.cong hSi) (by simp) (by simp) (by simp; omega)
  refine A_seq ?_
  (refine A_drawi WideF.wide (.q 0 (.q 1 (.q 2 (.q 3 (.q 6 (.q 7 (.f 4 (.f 5 (.e 8 (.e 9 (.r (.e 10 (.e 11 (.q 12 (.done []))))))) 8 (.e 5 (.e 9 (.r (.e 10 (.e 11 (.q 12 (.done [])))))))) 8 (.e 4 (.e 5 (.e 9 (.r (.e 10 (.e 11 (.q 12 (.done []))))))))))))))) [10, 11, 12] [0, 1] [2, 3, 4] (by decide +kernel) (by decide) rfl ?_; simp only [Own.picks, Own.rget, List.cons_append, List.nil_append, List.append_nil])
  repeat' (first | (refine E_ef rfl (Ef_f1 (Ef_f2 (Ef_appendR WideF.wide rfl rfl rfl rfl rfl (by simp; omega) (by simp; omega) rfl ?_))); intro a4 c4; refine ⟨Grow.same rfl rfl, ?_⟩) | (refine E_ef rfl ?_; refine Ef_freeze (by rw [← hSi]; exact stc_one _) ?_; intro H2 hle2 rS; refine Ef_freeze (by rw [← hRi]; exact irow_one _) ?_; intro H3 hle3 rR; refine Ef_call (I := []) WideF.wide (hL4 H3 _ _ _ _ _ _ (hle2.trans hle3) rR (rS.mono hle3)) ⟨rfl, rfl, rfl, rfl, trivial⟩ rfl ?_; rintro v H4 I4 hle4 ⟨⟨cs4, rfl, hcs4⟩, rfl⟩; obtain ⟨pa4, pn4, pc4, da4, dn4, dc4, la4, ln4, lc4, rfl, _, _, _⟩ := hcs4.ex; refine ⟨⟨hle2.trans (hle3.trans hle4), rfl⟩, ?_⟩) | refine O_nil ?_ | refine A_ret ?_ | (show drJ _ _ _ _ _ _ _ (.q _ _) _; refine D_q rfl ?_) | (show drJ _ _ _ _ _ _ _ (.e _ _) _; refine D_e rfl ?_) | (show drJ _ _ _ _ _ _ _ (.f _ _ _ _) _; refine D_f rfl rfl ?_ ?_) | (show drJ _ _ _ _ _ _ _ (.r _) _; refine D_r ?_; simp only [List.cons_append, List.nil_append]) | (show drJ _ _ _ _ _ _ _ (.done _) _; refine D_done ?_; simp only [List.cons_append, List.nil_append]) | (show drQ _ _ _ _ _ _; first | refine D_ev rfl (Ev_pure rfl) rfl rfl ?_ | (show drQ _ _ _ ⟨_, .load _ _, _, _, _, _⟩ _ _; first | refine D_ev rfl (Ev_loadB (i := 0) rfl rfl rfl) rfl rfl ?_ | refine D_ev rfl (Ev_loadB (i := 1) rfl rfl rfl) rfl rfl ?_)) | (show drE _ _ _ _ _ _ _; first | (show drE _ _ _ _ ⟨_, .call _, _, _, _, _⟩ _ _; first | (refine E_ef rfl (Ef_f1 (Ef_appendR WideF.wide rfl rfl rfl rfl rfl (by simp; omega) (by simp; omega) rfl ?_)); intro a cp; refine ⟨Grow.same rfl rfl, ?_⟩) | (refine E_ef rfl (Ef_f2 (Ef_appendR WideF.wide rfl rfl rfl rfl rfl (by simp; omega) (by simp; omega) rfl ?_)); intro a cp; refine ⟨Grow.same rfl rfl, ?_⟩)) | (show drE _ _ _ _ ⟨_, .buildSlice _ _ _, _, _, _, _⟩ _ _; first | (refine E_ef rfl (Ef_build1a WideF.wide rfl rfl rfl rfl rfl ?_); intro b; refine ⟨Grow.same rfl rfl, ?_⟩) | (refine E_ef rfl (Ef_build11 WideF.wide rfl rfl rfl ?_); intro b; refine ⟨Grow.same rfl rfl, ?_⟩)) | (show drE _ _ _ _ ⟨_, .store _ _ _, _, _, _, _⟩ _ _; (refine E_ef rfl (Ef_f2 (Ef_storew WideF.wide rfl rfl rfl rfl rfl ?_)); refine ⟨Grow.same rfl rfl, ?_⟩))))

  all_goals
    refine End_e (RetT2 rfl rfl (i := 0) rfl rfl rfl) ?_
    refine ⟨⟨_, _, 0, rfl, hcs4, hspec _ _ (fun h => absurd h hsm) (fun _ hE => ?_) (fun _ _ => ⟨by rw [hsG]; exact hks, rfl⟩)⟩, rfl⟩
    rw [decide_eq_false hsm, decide_eq_false hC1, decide_eq_false hlast, decide_eq_false h64] at hE
    cases hE
end Go.Proofs.Ythniohgeojenaaa
