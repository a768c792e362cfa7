/-
  The law's states and valid decisions.
-/
import Derived.Test.YthniohgeojenaaaM13
namespace Go.Proofs.Ythniohgeojenaaa
open Go
set_option linter.unusedVariables false
set_option linter.unusedSimpArgs false
def okId (x : Int) : Bool := decide (1 ≤ x ∧ x ≤ 1073741824)
def validA (l : List Int) : List Int := (l.take 40).filter okId
def validR (a l : List Int) : List Int := (l.take 40).filter (fun x => okId x && decide (x ∉ a))
def validD (d : Dec) : Dec := ⟨sortI (validA d.acc), sortI (validR (sortI (validA d.acc)) d.rej)⟩
attribute [local irreducible] wpA opsA drJ drQ drE Ef Ev Shift Fn
set_option maxRecDepth 100000 in
set_option maxHeartbeats 2000000 in
theorem states_fn {H : Hp} {hcs : List Value} {q : Head} {k : Int} (hh : HeadH H hcs q) (hs : IncP q.props) (hl : q.mass < 1073741824) : Fn Try.prog 27 [.agg hcs.toArray, .int .i64 k] H [] (StatesIs ((layersK q.layers k).map Layr.st ++ [getP q.props k])) := by
  have hm := hl
  obtain ⟨pa, pn, pc, da, dn, dc, la, ln, lc, rfl, h1, h2, h3⟩ := hh.ex
  have l3 := h3.len
  simp only [List.length_map] at l3
  unfold Head.mass at hl
  refine Fn_of _ _ Try.func27 rfl Try.ntmps27 rfl fun c => ?_
  refine A_seq ?_
  refine A_cutu (fun s => ∃ b2, s = ⟨37, [(1, .int .i64 k), (2, ptr b2)], H, [.box b2 [.slice pa pn pc, .int .i64 q.ins, .int .i64 q.move, .slice da dn dc, .slice la ln lc]], [], []⟩) ?_ ?_
  · repeat' (first | refine O_nil ?_ | refine A_region ?_ | (show opsA _ _ _ _ _ _ _; first | refine O_ev WideF.wide rfl (Ev_pure rfl) rfl rfl ?_ | (show opsA _ _ _ _ (⟨_, .box _ _, _, _, _, _⟩ :: _) _ _; (refine O_ef rfl (Ef_boxa WideF.wide rfl rfl ?_); intro b))))
    exact Shift.to ⟨_, rfl⟩ ⟨rfl, rfl, rfl, ⟨rfl, rfl, trivial⟩, Own.subi [0] (by decide) rfl rfl⟩
  rintro s ⟨b2, rfl⟩
  refine A_freezeBox (by intro u hu; simp at hu; rcases hu with rfl | rfl | rfl | rfl | rfl <;> rfl) ?_
  intro H1 hle1 hb1
  have hlo := layersOf_fn (k := k) (hh.mono hle1) hm
  refine A_nilrow 2 ?_
  repeat' (first | (refine O_ev WideF.wide rfl (Ev_loadH rfl hb1 rfl) rfl rfl ?_) | (refine O_ef rfl (Ef_call (I := []) WideF.wide hlo ⟨rfl, rfl, trivial⟩ rfl ?_); rintro v H2 I2 hle2 ⟨⟨ya, yn, yc, rfl, hy⟩, rfl⟩) | refine O_nil ?_ | refine A_seq ?_ | refine A_region ?_ | refine A_block ?_ | (show opsA _ _ _ _ _ _ _; refine O_ev WideF.wide rfl (Ev_pure rfl) rfl rfl ?_))
  have hb1 : HCells H2 b2 0 [.slice pa pn pc, .int .i64 q.ins, .int .i64 q.move, .slice da dn dc, .slice la ln lc] := fun j v hj => hle2 _ _ _ (hb1 j v hj)
  have hpr := lawPresent_fn (k := k) (hh.mono (hle1.trans hle2)) hs (by omega)
  generalize hY : layersK q.layers k = Y at hy
  have hYl : Y.length ≤ ln := by rw [← hY, ← l3]; exact List.length_filter_le _ _
  have hyl : Y.length = yn := by have := hy.len; simpa using this
  refine A_loopu (fun m s => ∃ (i : Nat) (a : Option Addr) (n c : Nat) (p : List (List Value)), m = yn - i ∧ i ≤ yn ∧ p.length = n ∧ n ≤ i ∧ p = ((Y.take i).map Layr.st).map stc ∧ s = ⟨37, [(1, .int .i64 k), (2, ptr b2), (5, .slice a n c), (6, .slice ya yn yc), (7, .int .i64 i)], H2, [.row (.slice a n c) 2 p], [], []⟩) ?_ ?_
  · exact Shift.to ⟨_, 0, none, 0, 0, [], rfl, by omega, rfl, by omega, by simp, rfl⟩ ⟨rfl, rfl, rfl, ⟨rfl, rfl, rfl, rfl, rfl, trivial⟩, Own.subi [0] (by decide) rfl rfl⟩
  · rintro m s ⟨i, a, n, cc, p, rfl, hi, hpn, hni, hpp, rfl⟩
    by_cases hlt : i < yn
    · obtain ⟨b', o, y, rfl, hyi, hc⟩ := hy.atm i hlt
      unfold lrow at hc
      repeat' (first | (refine A_drawi WideF.wide (.p 0 (.p 1 (.p 2 (.p 3 (.q 4 (.q 5 (.p 6 (.p 7 (.p 8 (.q 9 (.q 10 (.r (.q 11 (.e 12 (.e 13 (.q 14 (.done []))))))))))))))))) [11, 12, 13, 14] [] [0] (by decide +kernel) (by decide) rfl ?_; simp only [Own.picks, Own.rget, List.cons_append, List.nil_append, List.append_nil]) | (refine D_ev rfl (Ev_loadH1 rfl (hc 2 _ rfl)) rfl rfl ?_) | (refine D_ev rfl (Ev_loadH1 rfl (hc 3 _ rfl)) rfl rfl ?_) | refine O_nil ?_ | refine A_seq ?_ | refine A_region ?_ | refine A_skip ?_ | refine A_block ?_ | (show drJ _ _ _ _ _ _ _ (.q _ _) _; refine D_q rfl ?_) | (show drJ _ _ _ _ _ _ _ (.e _ _) _; refine D_e rfl ?_) | (show drJ _ _ _ _ _ _ _ (.r _) _; refine D_r ?_; simp only [List.cons_append, List.nil_append]) | (show drJ _ _ _ _ _ _ _ (.done _) _; refine D_done ?_; simp only [List.cons_append, List.nil_append]) | (show drQ _ _ _ _ _ _; first | refine D_ev rfl (Ev_pure rfl) rfl rfl ?_ | (show drQ _ _ _ ⟨_, .fieldAddr _ _ _, _, _, _, _⟩ _ _; refine D_ev rfl (Ev_fieldAddr rfl rfl rfl) rfl rfl ?_) | (show drQ _ _ _ ⟨_, .build _ _, _, _, _, _⟩ _ _; refine D_ev rfl (Ev_build (vs := [(_, _), (_, _)]) ⟨rfl, rfl, rfl, rfl, trivial⟩ rfl) rfl rfl ?_)) | (show drJ _ _ _ _ _ _ _ (.p _ _) _; refine D_p rfl ?_) | (show drP _ _ _ _ _ _; first | refine D_pv rfl (Ev_pure rfl) rfl rfl ?_ | (show drP _ _ _ ⟨_, .indexAddr _ _ _, _, _, _, _⟩ _ _; refine D_pv rfl (Ev_indexAddr rfl rfl (by omega) (by omega)) rfl rfl ?_)) | (show drE _ _ _ _ _ _ _; first | (show drE _ _ _ _ ⟨_, .call _, _, _, _, _⟩ _ _; (refine E_ef rfl (Ef_f1 (Ef_appendR WideF.wide rfl rfl rfl rfl rfl (by simp; omega) (by simp; omega) rfl ?_)); intro a cp; refine ⟨Grow.same rfl rfl, ?_⟩)) | (show drE _ _ _ _ ⟨_, .buildSlice _ _ _, _, _, _, _⟩ _ _; (refine E_ef rfl (Ef_build1a WideF.wide rfl rfl rfl rfl rfl ?_); intro b; refine ⟨Grow.same rfl rfl, ?_⟩))) | (show opsA _ _ _ _ _ _ _; first | refine O_ev WideF.wide rfl (Ev_pure rfl) rfl rfl ?_ | (show opsA _ _ _ _ (⟨_, .call _, _, _, _, _⟩ :: _) _ _; refine O_ev WideF.wide rfl (Ev_llen rfl) rfl rfl ?_) | (show opsA _ _ _ _ (⟨_, .binOp _ _ _ _ _, _, _, _, _⟩ :: _) _ _; refine O_ev WideF.wide rfl (Ev_add rfl rfl (wi64 (by omega))) rfl rfl ?_)) | (show wpA _ _ _ (.cond _ _ _) _ _ _ _; (refine A_if rfl (fun h => ?_) (fun h => ?_) <;> try (exfalso; omega))))
      refine Shift.to ⟨_, ?_, i + 1, _, _, _, p ++ [stc y.st], rfl, by omega, rfl, by simp; omega, by rw [take_get hyi, hpp]; simp, rfl⟩ ⟨rfl, rfl, rfl, ⟨rfl, rfl, rfl, rfl, rfl, trivial⟩, Own.subi [0] (by decide) rfl rfl⟩
      omega
    · have hin : yn = i := by omega
      subst hin
      rw [List.take_of_length_le (by omega)] at hpp
      repeat' (first | (refine O_ev WideF.wide rfl (Ev_loadH rfl hb1 rfl) rfl rfl ?_) | (refine O_ef rfl (Ef_callp WideF.wide hpr ⟨rfl, rfl, trivial⟩ rfl ?_)) | refine O_nil ?_ | refine A_seq ?_ | refine A_region ?_ | refine A_ret ?_ | (show opsA _ _ _ _ _ _ _; first | refine O_ev WideF.wide rfl (Ev_pure rfl) rfl rfl ?_ | (show opsA _ _ _ _ (⟨_, .call _, _, _, _, _⟩ :: _) _ _; first | refine O_ev WideF.wide rfl (Ev_llen rfl) rfl rfl ?_ | (refine O_f1 (O_ef rfl (Ef_appendR WideF.wide rfl rfl rfl rfl rfl (by simp; omega) (by simp; omega) rfl ?_)); intro a cp)) | (show opsA _ _ _ _ (⟨_, .buildSlice _ _ _, _, _, _, _⟩ :: _) _ _; (refine O_ef rfl (Ef_build1a WideF.wide rfl rfl rfl rfl rfl ?_); intro b))) | (show wpA _ _ _ (.exit _) _ _ _ _; refine A_exit rfl ?_) | (show wpA _ _ _ (.cond _ _ _) _ _ _ _; (refine A_if rfl (fun h => ?_) (fun h => ?_) <;> try (exfalso; omega))))
      have e : p ++ [stc (getP q.props k)] = (Y.map Layr.st ++ [getP q.props k]).map stc := by rw [hpp]; simp
      refine End_s (Ret1 rfl rfl) ?_
      refine Shift_freeze (css := p ++ [stc (getP q.props k)]) (by rw [e]; exact stc_one _) fun H3 hle3 hr1 => Shift.pure ⟨rfl, ⟨_, _, _, rfl, hr1.cong e.symm⟩, rfl⟩
abbrev vEnv (b1 b2 b3 : Nat) : Env := [(1, ptr b1), (2, ptr b2), (3, ptr b3)]
abbrev zDec : List Value := [.slice none 0 0, .slice none 0 0]
theorem validA_snoc (p : Int → Bool) (l : List Int) (i : Nat) (x : Int) (h : l[i]? = some x) : (l.take (i + 1)).filter p = if p x then (l.take i).filter p ++ [x] else (l.take i).filter p := by
  rw [take_get h, List.filter_append]
  by_cases hp : p x = true <;> simp [hp]
set_option maxRecDepth 100000 in
set_option maxHeartbeats 4000000 in
theorem valid_fn {H : Hp} {dcs : List Value} {d : Dec} (hd : DecH H dcs d) (m1 : d.acc.length < 1073741824) (m2 : d.rej.length < 1073741824) : Fn Try.prog 14 [.agg dcs.toArray] H [] fun v H' I' => (∃ cs, v = .agg cs.toArray ∧ DecH H' cs (validD d)) ∧ I' = [] := by
  obtain ⟨aa, an, ac, ra, rn, rc, rfl, g1, g2⟩ := hd.ex
  have l1 := g1.len
  have l2 := g2.len
  simp only [List.length_map] at l1 l2
  refine Fn_of _ _ Try.func14 rfl Try.ntmps14 rfl fun c => ?_
  refine A_seq ?_
  refine A_cutu (fun s => ∃ b1 b2, s = ⟨96, [(1, ptr b1), (2, ptr b2)], H, [.box b1 [.slice aa an ac, .slice ra rn rc], .box b2 zDec], [], []⟩) ?_ ?_
  · repeat' (first | refine O_nil ?_ | refine A_region ?_ | (show opsA _ _ _ _ _ _ _; first | (show opsA _ _ _ _ (⟨_, .alloc _, _, _, _, _⟩ :: _) _ _; (refine O_ef rfl (Ef_alloc WideF.wide rfl ?_); intro b)) | (show opsA _ _ _ _ (⟨_, .box _ _, _, _, _, _⟩ :: _) _ _; (refine O_ef rfl (Ef_boxa WideF.wide rfl rfl ?_); intro b))))
    exact Shift.to ⟨_, _, rfl⟩ ⟨rfl, rfl, rfl, ⟨rfl, rfl, trivial⟩, Own.subi [1, 0] (by decide) rfl rfl⟩
  rintro s ⟨b1, b2, rfl⟩
  refine A_freezeBox (by intro u hu; simp at hu; rcases hu with rfl | rfl <;> rfl) ?_
  intro H1 hle1 hb1
  have g1 := g1.mono hle1
  have g2 := g2.mono hle1
  refine A_seq ?_
  refine A_cutu (fun s => ∃ b3, s = ⟨96, vEnv b1 b2 b3, H1, [.box b3 zDec, .box b2 zDec], [], []⟩) ?_ ?_
  · repeat' (first | refine O_nil ?_ | refine A_region ?_ | (show opsA _ _ _ _ _ _ _; (show opsA _ _ _ _ (⟨_, .alloc _, _, _, _, _⟩ :: _) _ _; (refine O_ef rfl (Ef_alloc WideF.wide rfl ?_); intro b))))
    exact Shift.to ⟨_, rfl⟩ ⟨rfl, rfl, rfl, ⟨rfl, rfl, rfl, trivial⟩, Own.subi [0, 1] (by decide) rfl rfl⟩
  rintro s ⟨b3, rfl⟩
  refine A_nilrow 1 ?_
  refine A_seq ?_
  refine A_cutu (fun s => ∃ (a : Option Addr) (n c : Nat) (p : List (List Value)), p = (validA d.acc).map irow ∧ s = ⟨96, vEnv b1 b2 b3, H1, [.row (.slice a n c) 1 p, .box b3 [.slice a n c, .slice none 0 0], .box b2 zDec], [], []⟩) ?_ ?_
  · repeat' (first | refine O_nil ?_ | refine A_seq ?_ | refine A_region ?_ | refine A_block ?_ | (show opsA _ _ _ _ _ _ _; refine O_ev WideF.wide rfl (Ev_pure rfl) rfl rfl ?_))
    refine A_loopu (fun m s => ∃ (i : Nat) (a : Option Addr) (n c : Nat) (p : List (List Value)), m = an - i ∧ i ≤ an ∧ i ≤ 40 ∧ p.length = n ∧ n ≤ i ∧ p = ((d.acc.take i).filter okId).map irow ∧ s = ⟨96, (4, .int .i64 i) :: vEnv b1 b2 b3, H1, [.row (.slice a n c) 1 p, .box b3 [.slice a n c, .slice none 0 0], .box b2 zDec], [], []⟩) ?_ ?_
    · exact Shift.to ⟨_, 0, none, 0, 0, [], rfl, by omega, by omega, rfl, by omega, by simp, rfl⟩ ⟨rfl, rfl, rfl, ⟨rfl, rfl, rfl, rfl, trivial⟩, Own.subi [0, 1, 2] (by decide) rfl rfl⟩
    · rintro m s ⟨i, a, n, cc, p, rfl, hi, hi40, hpn, hni, hpp, rfl⟩
      refine A_seq (A_seq ?_)
      refine A_cutu (fun s => s = ⟨96, (14, .bool (decide (i < an ∧ i < 40))) :: (4, .int .i64 i) :: vEnv b1 b2 b3, H1, [.row (.slice a n cc) 1 p, .box b3 [.slice a n cc, .slice none 0 0], .box b2 zDec], [], []⟩) ?_ ?_
      · by_cases hlt : i < an
        · have e : decide (i < an ∧ i < 40) = decide ((i : Int) < 40) := by simp only [hlt, true_and]; congr 1; simp only [eq_iff_iff]; omega
          rw [e]
          repeat' (first | (refine O_ev WideF.wide rfl (Ev_loadH1 rfl (hb1 0 _ rfl)) rfl rfl ?_) | refine O_nil ?_ | refine A_region ?_ | (show opsA _ _ _ _ _ _ _; first | (refine O_split rfl rfl (fun h => ?_) (fun h => ?_) <;> try (exfalso; omega)) | refine O_ev WideF.wide rfl (Ev_pure rfl) rfl rfl ?_ | (show opsA _ _ _ _ (⟨_, .fieldAddr _ _ _, _, _, _, _⟩ :: _) _ _; refine O_ev WideF.wide rfl (Ev_fieldAddr rfl rfl rfl) rfl rfl ?_) | (show opsA _ _ _ _ (⟨_, .call _, _, _, _, _⟩ :: _) _ _; refine O_ev WideF.wide rfl (Ev_llen rfl) rfl rfl ?_)))
          exact Shift.to rfl ⟨rfl, rfl, rfl, ⟨rfl, rfl, rfl, rfl, rfl, trivial⟩, Own.subi [0, 1, 2] (by decide) rfl rfl⟩
        · have e : decide (i < an ∧ i < 40) = false := by simp [hlt]
          rw [e]
          repeat' (first | (refine O_ev WideF.wide rfl (Ev_loadH1 rfl (hb1 0 _ rfl)) rfl rfl ?_) | refine O_nil ?_ | refine A_region ?_ | (show opsA _ _ _ _ _ _ _; first | (refine O_split rfl rfl (fun h => ?_) (fun h => ?_) <;> try (exfalso; omega)) | refine O_ev WideF.wide rfl (Ev_pure rfl) rfl rfl ?_ | (show opsA _ _ _ _ (⟨_, .fieldAddr _ _ _, _, _, _, _⟩ :: _) _ _; refine O_ev WideF.wide rfl (Ev_fieldAddr rfl rfl rfl) rfl rfl ?_) | (show opsA _ _ _ _ (⟨_, .call _, _, _, _, _⟩ :: _) _ _; refine O_ev WideF.wide rfl (Ev_llen rfl) rfl rfl ?_) | refine O_skip WideF.wide rfl rfl rfl ?_))
          exact Shift.to rfl ⟨rfl, rfl, rfl, ⟨rfl, rfl, rfl, rfl, rfl, trivial⟩, Own.subi [0, 1, 2] (by decide) rfl rfl⟩
      rintro s rfl
      by_cases hgo : i < an ∧ i < 40
      · obtain ⟨hlt, h40⟩ := hgo
        obtain ⟨b', o, y, ha', hyi, hc⟩ := g1.atm i hlt
        cases ha'
        unfold irow at hc
        have hsn := validA_snoc okId d.acc i y hyi
        by_cases hok : 1 ≤ y ∧ y ≤ 1073741824
        · rw [if_pos (by unfold okId; exact decide_eq_true hok)] at hsn
          obtain ⟨hok1, hok2⟩ := hok
          repeat' (first | (refine O_ev WideF.wide rfl (Ev_loadH1 rfl (hb1 0 _ rfl)) rfl rfl ?_) | (refine O_ev WideF.wide rfl (Ev_loadH1 rfl (hc 0 _ rfl)) rfl rfl ?_) | (refine A_drawi WideF.wide (.q 0 (.q 1 (.p 2 (.q 3 (.q 4 (.q 5 (.q 6 (.e 7 (.r (.e 8 (.q 9 (.e 10 (.done []))))))))))))) [8, 9, 10] [] [0, 1, 2] (by decide +kernel) (by decide) rfl ?_; simp only [Own.picks, Own.rget, List.cons_append, List.nil_append, List.append_nil]) | (refine D_ev rfl (Ev_loadH1 rfl (hb1 0 _ rfl)) rfl rfl ?_) | (refine D_ev rfl (Ev_loadH1 rfl (hc 0 _ rfl)) rfl rfl ?_) | refine O_nil ?_ | refine A_seq ?_ | refine A_region ?_ | refine A_skip ?_ | refine A_block ?_ | (show drJ _ _ _ _ _ _ _ (.q _ _) _; refine D_q rfl ?_) | (show drJ _ _ _ _ _ _ _ (.e _ _) _; refine D_e rfl ?_) | (show drJ _ _ _ _ _ _ _ (.r _) _; refine D_r ?_; simp only [List.cons_append, List.nil_append]) | (show drJ _ _ _ _ _ _ _ (.done _) _; refine D_done ?_; simp only [List.cons_append, List.nil_append]) | (show drQ _ _ _ _ _ _; first | refine D_ev rfl (Ev_pure rfl) rfl rfl ?_ | (show drQ _ _ _ ⟨_, .load _ _, _, _, _, _⟩ _ _; refine D_ev rfl (Ev_loadB1 (i := 1) rfl rfl rfl) rfl rfl ?_) | (show drQ _ _ _ ⟨_, .indexAddr _ _ _, _, _, _, _⟩ _ _; refine D_ev rfl (Ev_indexAddr rfl rfl (by omega) (by omega)) rfl rfl ?_) | (show drQ _ _ _ ⟨_, .fieldAddr _ _ _, _, _, _, _⟩ _ _; refine D_ev rfl (Ev_fieldAddr rfl rfl rfl) rfl rfl ?_)) | (show drJ _ _ _ _ _ _ _ (.p _ _) _; refine D_p rfl ?_) | (show drP _ _ _ _ _ _; (show drP _ _ _ ⟨_, .fieldAddr _ _ _, _, _, _, _⟩ _ _; refine D_pv rfl (Ev_fieldAddr rfl rfl rfl) rfl rfl ?_)) | (show drE _ _ _ _ _ _ _; first | (show drE _ _ _ _ ⟨_, .call _, _, _, _, _⟩ _ _; (refine E_ef rfl (Ef_f1 (Ef_appendR WideF.wide rfl rfl rfl rfl rfl (by simp; omega) (by simp; omega) rfl ?_)); intro a cp; refine ⟨Grow.same rfl rfl, ?_⟩)) | (show drE _ _ _ _ ⟨_, .buildSlice _ _ _, _, _, _, _⟩ _ _; (refine E_ef rfl (Ef_build11 WideF.wide rfl rfl rfl ?_); intro b; refine ⟨Grow.same rfl rfl, ?_⟩)) | (show drE _ _ _ _ ⟨_, .store _ _ _, _, _, _, _⟩ _ _; (refine E_ef rfl (Ef_f1 (Ef_store1 WideF.wide rfl rfl rfl rfl rfl ?_)); refine ⟨Grow.same rfl rfl, ?_⟩))) | (show opsA _ _ _ _ _ _ _; first | (refine O_split rfl rfl (fun h => ?_) (fun h => ?_) <;> try (exfalso; omega)) | refine O_ev WideF.wide rfl (Ev_pure rfl) rfl rfl ?_ | (show opsA _ _ _ _ (⟨_, .indexAddr _ _ _, _, _, _, _⟩ :: _) _ _; refine O_ev WideF.wide rfl (Ev_indexAddr rfl rfl (by omega) (by omega)) rfl rfl ?_) | (show opsA _ _ _ _ (⟨_, .fieldAddr _ _ _, _, _, _, _⟩ :: _) _ _; refine O_ev WideF.wide rfl (Ev_fieldAddr rfl rfl rfl) rfl rfl ?_) | (show opsA _ _ _ _ (⟨_, .binOp _ _ _ _ _, _, _, _, _⟩ :: _) _ _; refine O_ev WideF.wide rfl (Ev_add rfl rfl (wi64 (by omega))) rfl rfl ?_)) | (show wpA _ _ _ (.cond _ _ _) _ _ _ _; (refine A_if rfl (fun h => ?_) (fun h => ?_) <;> try (exfalso; omega))))
          refine Shift.to ⟨_, ?_, i + 1, _, _, _, p ++ [irow y], rfl, by omega, by omega, rfl, by simp; omega, by rw [hsn, hpp]; simp, rfl⟩ ⟨rfl, rfl, rfl, ⟨rfl, rfl, rfl, rfl, trivial⟩, Own.subi [1, 0, 2] (by decide) rfl rfl⟩
          omega
        · rw [if_neg (by unfold okId; simpa using hok)] at hsn
          repeat' (first | (refine O_ev WideF.wide rfl (Ev_loadH1 rfl (hb1 0 _ rfl)) rfl rfl ?_) | (refine O_ev WideF.wide rfl (Ev_loadH1 rfl (hc 0 _ rfl)) rfl rfl ?_) | refine O_nil ?_ | refine A_seq ?_ | refine A_region ?_ | refine A_skip ?_ | refine A_block ?_ | (show opsA _ _ _ _ _ _ _; first | (refine O_split rfl rfl (fun h => ?_) (fun h => ?_) <;> try (exfalso; omega)) | refine O_ev WideF.wide rfl (Ev_pure rfl) rfl rfl ?_ | (show opsA _ _ _ _ (⟨_, .indexAddr _ _ _, _, _, _, _⟩ :: _) _ _; refine O_ev WideF.wide rfl (Ev_indexAddr rfl rfl (by omega) (by omega)) rfl rfl ?_) | (show opsA _ _ _ _ (⟨_, .fieldAddr _ _ _, _, _, _, _⟩ :: _) _ _; refine O_ev WideF.wide rfl (Ev_fieldAddr rfl rfl rfl) rfl rfl ?_) | (show opsA _ _ _ _ (⟨_, .binOp _ _ _ _ _, _, _, _, _⟩ :: _) _ _; refine O_ev WideF.wide rfl (Ev_add rfl rfl (wi64 (by omega))) rfl rfl ?_) | refine O_skip WideF.wide rfl rfl rfl ?_) | (show wpA _ _ _ (.cond _ _ _) _ _ _ _; first | (refine A_if rfl (fun h => ?_) (fun h => ?_) <;> try (exfalso; omega)) | refine A_iffalse rfl ?_))
          all_goals
            refine Shift.to ⟨_, ?_, i + 1, a, n, cc, p, rfl, by omega, by omega, hpn, by omega, by rw [hsn]; exact hpp, rfl⟩ ⟨rfl, rfl, rfl, ⟨rfl, rfl, rfl, rfl, trivial⟩, Own.subi [0, 1, 2] (by decide) rfl rfl⟩
            omega
      · repeat' (first | (show wpA _ _ _ (.exit _) _ _ _ _; refine A_exit rfl ?_) | (show wpA _ _ _ (.cond _ _ _) _ _ _ _; (refine A_if rfl (fun h => ?_) (fun h => ?_) <;> try (exfalso; omega))))
        refine Shift.to ⟨a, n, cc, p, ?_, rfl⟩ ⟨rfl, rfl, rfl, ⟨rfl, rfl, rfl, trivial⟩, Own.subi [0, 1, 2] (by decide) rfl rfl⟩
        rw [hpp]
        unfold validA
        by_cases hib : i < an
        · have : i = 40 := by omega
          rw [this]
        · rw [List.take_of_length_le (l := d.acc) (by omega), List.take_of_length_le (l := d.acc) (by omega)]
  rintro s ⟨a1, n1, c1, p1, hp1, rfl⟩
  refine A_freeze (by rw [hp1]; exact irow_one _) ?_
  intro H2 hle2 hr1
  have hr1 := hr1.cong hp1.symm
  have hn1 : n1 ≤ 40 := by
    have h1 := hr1.len
    have h2 : (validA d.acc).length ≤ (d.acc.take 40).length := List.length_filter_le _ _
    simp only [List.length_map, List.length_take] at h1 h2
    omega
  have hso := sorted_fn hr1 (by omega)
  refine A_seq ?_
  refine A_cutu (fun s => ∃ (H3 : Hp) (a : Option Addr) (n c : Nat), HLe H2 H3 ∧ HRow H3 a n c 1 ((sortI (validA d.acc)).map irow) ∧ s = ⟨96, vEnv b1 b2 b3, H3, [.box b3 [.slice a n c, .slice none 0 0], .box b2 zDec], [], []⟩) ?_ ?_
  · repeat' (first | (refine O_ef rfl (Ef_call (I := []) WideF.wide hso ⟨rfl, trivial⟩ rfl ?_); rintro v H3 I3 hle3 ⟨⟨a2, n2, c2, rfl, hr2⟩, rfl⟩) | refine O_nil ?_ | refine A_region ?_ | (show opsA _ _ _ _ _ _ _; first | (show opsA _ _ _ _ (⟨_, .load _ _, _, _, _, _⟩ :: _) _ _; refine O_ev WideF.wide rfl (Ev_loadB1 (i := 0) rfl rfl rfl) rfl rfl ?_) | (show opsA _ _ _ _ (⟨_, .fieldAddr _ _ _, _, _, _, _⟩ :: _) _ _; refine O_ev WideF.wide rfl (Ev_fieldAddr rfl rfl rfl) rfl rfl ?_) | (show opsA _ _ _ _ (⟨_, .store _ _ _, _, _, _, _⟩ :: _) _ _; refine O_ef rfl (Ef_store1 WideF.wide rfl rfl rfl rfl rfl ?_))))
    exact Shift.to ⟨H3, _, _, _, hle3, hr2, rfl⟩ ⟨rfl, rfl, rfl, ⟨rfl, rfl, rfl, trivial⟩, Own.subi [0, 1] (by decide) rfl rfl⟩
  rintro s ⟨H3, a1, n1, c1, hle3, hr1, rfl⟩
  have hn1 : n1 ≤ 40 := by
    have h1 := hr1.len
    have h2 : (validA d.acc).length ≤ (d.acc.take 40).length := List.length_filter_le _ _
    have h3 := sortI_len (validA d.acc)
    simp only [List.length_map, List.length_take] at h1 h2
    omega
  generalize hA : sortI (validA d.acc) = A at hr1
  have hle13 := hle2.trans hle3
  have hb1 : HCells H3 b1 0 [.slice aa an ac, .slice ra rn rc] := fun j v hj => hle13 _ _ _ (hb1 j v hj)
  have g2 := g2.mono hle13
  refine A_nilrow 1 ?_
  refine A_seq ?_
  refine A_cutu (fun s => ∃ (a : Option Addr) (n c : Nat) (p : List (List Value)), p = (validR A d.rej).map irow ∧ s = ⟨96, vEnv b1 b2 b3, H3, [.row (.slice a n c) 1 p, .box b3 [.slice a1 n1 c1, .slice a n c], .box b2 zDec], [], []⟩) ?_ ?_
  · repeat' (first | refine O_nil ?_ | refine A_seq ?_ | refine A_region ?_ | refine A_block ?_ | (show opsA _ _ _ _ _ _ _; refine O_ev WideF.wide rfl (Ev_pure rfl) rfl rfl ?_))
    refine A_loopu (fun m s => ∃ (i : Nat) (a : Option Addr) (n c : Nat) (p : List (List Value)), m = rn - i ∧ i ≤ rn ∧ i ≤ 40 ∧ p.length = n ∧ n ≤ i ∧ p = ((d.rej.take i).filter (fun x => okId x && decide (x ∉ A))).map irow ∧ s = ⟨96, (5, .int .i64 i) :: vEnv b1 b2 b3, H3, [.row (.slice a n c) 1 p, .box b3 [.slice a1 n1 c1, .slice a n c], .box b2 zDec], [], []⟩) ?_ ?_
    · exact Shift.to ⟨_, 0, none, 0, 0, [], rfl, by omega, by omega, rfl, by omega, by simp, rfl⟩ ⟨rfl, rfl, rfl, ⟨rfl, rfl, rfl, rfl, trivial⟩, Own.subi [0, 1, 2] (by decide) rfl rfl⟩
    · rintro m s ⟨i, a, n, cc, p, rfl, hi, hi40, hpn, hni, hpp, rfl⟩
      refine A_seq (A_seq ?_)
      refine A_cutu (fun s => s = ⟨96, (53, .bool (decide (i < rn ∧ i < 40))) :: (5, .int .i64 i) :: vEnv b1 b2 b3, H3, [.row (.slice a n cc) 1 p, .box b3 [.slice a1 n1 c1, .slice a n cc], .box b2 zDec], [], []⟩) ?_ ?_
      · by_cases hlt : i < rn
        · have e : decide (i < rn ∧ i < 40) = decide ((i : Int) < 40) := by simp only [hlt, true_and]; congr 1; simp only [eq_iff_iff]; omega
          rw [e]
          repeat' (first | (refine O_ev WideF.wide rfl (Ev_loadH1 rfl (hb1 1 _ rfl)) rfl rfl ?_) | refine O_nil ?_ | refine A_region ?_ | (show opsA _ _ _ _ _ _ _; first | (refine O_split rfl rfl (fun h => ?_) (fun h => ?_) <;> try (exfalso; omega)) | refine O_ev WideF.wide rfl (Ev_pure rfl) rfl rfl ?_ | (show opsA _ _ _ _ (⟨_, .fieldAddr _ _ _, _, _, _, _⟩ :: _) _ _; refine O_ev WideF.wide rfl (Ev_fieldAddr rfl rfl rfl) rfl rfl ?_) | (show opsA _ _ _ _ (⟨_, .call _, _, _, _, _⟩ :: _) _ _; refine O_ev WideF.wide rfl (Ev_llen rfl) rfl rfl ?_)))
          exact Shift.to rfl ⟨rfl, rfl, rfl, ⟨rfl, rfl, rfl, rfl, rfl, trivial⟩, Own.subi [0, 1, 2] (by decide) rfl rfl⟩
        · have e : decide (i < rn ∧ i < 40) = false := by simp [hlt]
          rw [e]
          repeat' (first | (refine O_ev WideF.wide rfl (Ev_loadH1 rfl (hb1 1 _ rfl)) rfl rfl ?_) | refine O_nil ?_ | refine A_region ?_ | (show opsA _ _ _ _ _ _ _; first | (refine O_split rfl rfl (fun h => ?_) (fun h => ?_) <;> try (exfalso; omega)) | refine O_ev WideF.wide rfl (Ev_pure rfl) rfl rfl ?_ | (show opsA _ _ _ _ (⟨_, .fieldAddr _ _ _, _, _, _, _⟩ :: _) _ _; refine O_ev WideF.wide rfl (Ev_fieldAddr rfl rfl rfl) rfl rfl ?_) | (show opsA _ _ _ _ (⟨_, .call _, _, _, _, _⟩ :: _) _ _; refine O_ev WideF.wide rfl (Ev_llen rfl) rfl rfl ?_) | refine O_skip WideF.wide rfl rfl rfl ?_))
          exact Shift.to rfl ⟨rfl, rfl, rfl, ⟨rfl, rfl, rfl, rfl, rfl, trivial⟩, Own.subi [0, 1, 2] (by decide) rfl rfl⟩
      rintro s rfl
      by_cases hgo : i < rn ∧ i < 40
      · obtain ⟨hlt, h40⟩ := hgo
        obtain ⟨b', o, y, ha', hyi, hc⟩ := g2.atm i hlt
        cases ha'
        unfold irow at hc
        have hsn := validA_snoc (fun x => okId x && decide (x ∉ A)) d.rej i y hyi
        have hhas := lhas_fn (x := y) hr1 (by omega)
        by_cases hok : 1 ≤ y ∧ y ≤ 1073741824
        · have hok' : okId y = true := by unfold okId; exact decide_eq_true hok
          obtain ⟨hok1, hok2⟩ := hok
          by_cases hyA : y ∈ A
          · rw [if_neg (by simp [hyA])] at hsn
            rw [decide_eq_true hyA] at hhas
            repeat' (first | (refine A_drawi WideF.wide (.q 0 (.q 1 (.q 2 (.q 3 (.q 4 (.q 5 (.q 6 (.q 7 (.q 8 (.q 9 (.q 10 (.q 11 (.q 12 (.q 13 (.q 14 (.q 15 (.q 16 (.q 17 (.q 18 (.q 19 (.q 20 (.q 21 (.e 22 (.q 23 (.q 24 (.done [])))))))))))))))))))))))))) [] [] [0, 1, 2] (by decide +kernel) (by decide) rfl ?_; simp only [Own.picks, Own.rget, List.cons_append, List.nil_append, List.append_nil]) | (refine E_ef rfl (Ef_callp WideF.wide hhas ⟨rfl, rfl, trivial⟩ rfl ?_); refine ⟨Grow.same rfl rfl, ?_⟩) | (refine D_ev rfl (Ev_loadH1 rfl (hb1 1 _ rfl)) rfl rfl ?_) | (refine D_ev rfl (Ev_loadH1 rfl (hc 0 _ rfl)) rfl rfl ?_) | refine O_nil ?_ | refine A_seq ?_ | refine A_region ?_ | refine A_skip ?_ | refine A_block ?_ | (show drJ _ _ _ _ _ _ _ (.q _ _) _; refine D_q rfl ?_) | (show drJ _ _ _ _ _ _ _ (.e _ _) _; refine D_e rfl ?_) | (show drJ _ _ _ _ _ _ _ (.done _) _; refine D_done ?_; simp only [List.cons_append, List.nil_append]) | (show drQ _ _ _ _ _ _; first | (refine D_split rfl rfl (fun h => ?_) (fun h => ?_) <;> try (exfalso; omega)) | refine D_ev rfl (Ev_pure rfl) rfl rfl ?_ | (show drQ _ _ _ ⟨_, .load _ _, _, _, _, _⟩ _ _; refine D_ev rfl (Ev_loadB1 (i := 1) rfl rfl rfl) rfl rfl ?_) | (show drQ _ _ _ ⟨_, .indexAddr _ _ _, _, _, _, _⟩ _ _; refine D_ev rfl (Ev_indexAddr rfl rfl (by omega) (by omega)) rfl rfl ?_) | (show drQ _ _ _ ⟨_, .fieldAddr _ _ _, _, _, _, _⟩ _ _; refine D_ev rfl (Ev_fieldAddr rfl rfl rfl) rfl rfl ?_) | (show drQ _ _ _ ⟨_, .unOp _ _ _, _, _, _, _⟩ _ _; refine D_ev rfl (Ev_notb rfl) rfl rfl ?_)) | (show opsA _ _ _ _ _ _ _; first | refine O_ev WideF.wide rfl (Ev_pure rfl) rfl rfl ?_ | (show opsA _ _ _ _ (⟨_, .binOp _ _ _ _ _, _, _, _, _⟩ :: _) _ _; refine O_ev WideF.wide rfl (Ev_add rfl rfl (wi64 (by omega))) rfl rfl ?_)) | (show wpA _ _ _ (.cond _ _ _) _ _ _ _; first | (refine A_if rfl (fun h => ?_) (fun h => ?_) <;> try (exfalso; omega)) | refine A_iffalse rfl ?_))
            all_goals
              refine Shift.to ⟨_, ?_, i + 1, a, n, cc, p, rfl, by omega, by omega, hpn, by omega, by rw [hsn]; exact hpp, rfl⟩ ⟨rfl, rfl, rfl, ⟨rfl, rfl, rfl, rfl, trivial⟩, Own.subi [0, 1, 2] (by decide) rfl rfl⟩
              omega
          · rw [if_pos (by simp [hyA, hok'])] at hsn
            rw [decide_eq_false hyA] at hhas
            repeat' (first | (refine A_drawi WideF.wide (.q 0 (.q 1 (.q 2 (.q 3 (.q 4 (.q 5 (.q 6 (.q 7 (.q 8 (.q 9 (.q 10 (.q 11 (.q 12 (.q 13 (.q 14 (.q 15 (.q 16 (.q 17 (.q 18 (.q 19 (.q 20 (.q 21 (.e 22 (.q 23 (.q 24 (.done [])))))))))))))))))))))))))) [] [] [0, 1, 2] (by decide +kernel) (by decide) rfl ?_; simp only [Own.picks, Own.rget, List.cons_append, List.nil_append, List.append_nil]) | (refine E_ef rfl (Ef_callp WideF.wide hhas ⟨rfl, rfl, trivial⟩ rfl ?_); refine ⟨Grow.same rfl rfl, ?_⟩) | (refine A_drawi WideF.wide (.q 0 (.q 1 (.p 2 (.q 3 (.q 4 (.q 5 (.q 6 (.e 7 (.r (.e 8 (.q 9 (.e 10 (.done []))))))))))))) [8, 9, 10] [] [0, 1, 2] (by decide +kernel) (by decide) rfl ?_; simp only [Own.picks, Own.rget, List.cons_append, List.nil_append, List.append_nil]) | (refine D_ev rfl (Ev_loadH1 rfl (hb1 1 _ rfl)) rfl rfl ?_) | (refine D_ev rfl (Ev_loadH1 rfl (hc 0 _ rfl)) rfl rfl ?_) | refine O_nil ?_ | refine A_seq ?_ | refine A_region ?_ | refine A_skip ?_ | refine A_block ?_ | (show drJ _ _ _ _ _ _ _ (.q _ _) _; refine D_q rfl ?_) | (show drJ _ _ _ _ _ _ _ (.e _ _) _; refine D_e rfl ?_) | (show drJ _ _ _ _ _ _ _ (.r _) _; refine D_r ?_; simp only [List.cons_append, List.nil_append]) | (show drJ _ _ _ _ _ _ _ (.done _) _; refine D_done ?_; simp only [List.cons_append, List.nil_append]) | (show drQ _ _ _ _ _ _; first | (refine D_split rfl rfl (fun h => ?_) (fun h => ?_) <;> try (exfalso; omega)) | refine D_ev rfl (Ev_pure rfl) rfl rfl ?_ | (show drQ _ _ _ ⟨_, .load _ _, _, _, _, _⟩ _ _; refine D_ev rfl (Ev_loadB1 (i := 1) rfl rfl rfl) rfl rfl ?_) | (show drQ _ _ _ ⟨_, .indexAddr _ _ _, _, _, _, _⟩ _ _; refine D_ev rfl (Ev_indexAddr rfl rfl (by omega) (by omega)) rfl rfl ?_) | (show drQ _ _ _ ⟨_, .fieldAddr _ _ _, _, _, _, _⟩ _ _; refine D_ev rfl (Ev_fieldAddr rfl rfl rfl) rfl rfl ?_) | (show drQ _ _ _ ⟨_, .unOp _ _ _, _, _, _, _⟩ _ _; refine D_ev rfl (Ev_notb rfl) rfl rfl ?_)) | (show drJ _ _ _ _ _ _ _ (.p _ _) _; refine D_p rfl ?_) | (show drP _ _ _ _ _ _; (show drP _ _ _ ⟨_, .fieldAddr _ _ _, _, _, _, _⟩ _ _; refine D_pv rfl (Ev_fieldAddr rfl rfl rfl) rfl rfl ?_)) | (show drE _ _ _ _ _ _ _; first | (show drE _ _ _ _ ⟨_, .call _, _, _, _, _⟩ _ _; (refine E_ef rfl (Ef_f1 (Ef_appendR WideF.wide rfl rfl rfl rfl rfl (by simp; omega) (by simp; omega) rfl ?_)); intro a cp; refine ⟨Grow.same rfl rfl, ?_⟩)) | (show drE _ _ _ _ ⟨_, .buildSlice _ _ _, _, _, _, _⟩ _ _; (refine E_ef rfl (Ef_build11 WideF.wide rfl rfl rfl ?_); intro b; refine ⟨Grow.same rfl rfl, ?_⟩)) | (show drE _ _ _ _ ⟨_, .store _ _ _, _, _, _, _⟩ _ _; (refine E_ef rfl (Ef_f1 (Ef_store1 WideF.wide rfl rfl rfl rfl rfl ?_)); refine ⟨Grow.same rfl rfl, ?_⟩))) | (show opsA _ _ _ _ _ _ _; first | refine O_ev WideF.wide rfl (Ev_pure rfl) rfl rfl ?_ | (show opsA _ _ _ _ (⟨_, .binOp _ _ _ _ _, _, _, _, _⟩ :: _) _ _; refine O_ev WideF.wide rfl (Ev_add rfl rfl (wi64 (by omega))) rfl rfl ?_)) | (show wpA _ _ _ (.cond _ _ _) _ _ _ _; first | (refine A_if rfl (fun h => ?_) (fun h => ?_) <;> try (exfalso; omega)) | refine A_iftrue rfl ?_))
            all_goals
              refine Shift.to ⟨_, ?_, i + 1, _, _, _, p ++ [irow y], rfl, by omega, by omega, rfl, by simp; omega, by rw [hsn, hpp]; simp, rfl⟩ ⟨rfl, rfl, rfl, ⟨rfl, rfl, rfl, rfl, trivial⟩, Own.subi [1, 0, 2] (by decide) rfl rfl⟩
              omega
        · have hok' : okId y = false := by unfold okId; simpa using hok
          rw [if_neg (by simp [hok'])] at hsn
          repeat' (first | (refine A_drawi WideF.wide (.q 0 (.q 1 (.q 2 (.q 3 (.q 4 (.q 5 (.q 6 (.q 7 (.q 8 (.q 9 (.q 10 (.q 11 (.q 12 (.q 13 (.q 14 (.q 15 (.q 16 (.q 17 (.q 18 (.q 19 (.q 20 (.q 21 (.e 22 (.q 23 (.q 24 (.done [])))))))))))))))))))))))))) [] [] [0, 1, 2] (by decide +kernel) (by decide) rfl ?_; simp only [Own.picks, Own.rget, List.cons_append, List.nil_append, List.append_nil]) | (refine D_ev rfl (Ev_loadH1 rfl (hb1 1 _ rfl)) rfl rfl ?_) | (refine D_ev rfl (Ev_loadH1 rfl (hc 0 _ rfl)) rfl rfl ?_) | refine O_nil ?_ | refine A_seq ?_ | refine A_region ?_ | refine A_skip ?_ | refine A_block ?_ | (show drJ _ _ _ _ _ _ _ (.q _ _) _; refine D_q rfl ?_) | (show drJ _ _ _ _ _ _ _ (.e _ _) _; refine D_e rfl ?_) | (show drJ _ _ _ _ _ _ _ (.done _) _; refine D_done ?_; simp only [List.cons_append, List.nil_append]) | (show drQ _ _ _ _ _ _; first | (refine D_split rfl rfl (fun h => ?_) (fun h => ?_) <;> try (exfalso; omega)) | refine D_ev rfl (Ev_pure rfl) rfl rfl ?_ | (show drQ _ _ _ ⟨_, .indexAddr _ _ _, _, _, _, _⟩ _ _; refine D_ev rfl (Ev_indexAddr rfl rfl (by omega) (by omega)) rfl rfl ?_) | (show drQ _ _ _ ⟨_, .fieldAddr _ _ _, _, _, _, _⟩ _ _; refine D_ev rfl (Ev_fieldAddr rfl rfl rfl) rfl rfl ?_) | refine D_skip rfl rfl rfl ?_) | (show drE _ _ _ _ _ _ _; refine E_skip rfl rfl rfl ?_) | (show opsA _ _ _ _ _ _ _; first | refine O_ev WideF.wide rfl (Ev_pure rfl) rfl rfl ?_ | (show opsA _ _ _ _ (⟨_, .binOp _ _ _ _ _, _, _, _, _⟩ :: _) _ _; refine O_ev WideF.wide rfl (Ev_add rfl rfl (wi64 (by omega))) rfl rfl ?_)) | (show wpA _ _ _ (.cond _ _ _) _ _ _ _; first | (refine A_if rfl (fun h => ?_) (fun h => ?_) <;> try (exfalso; omega)) | refine A_iffalse rfl ?_))
          all_goals
            refine Shift.to ⟨_, ?_, i + 1, a, n, cc, p, rfl, by omega, by omega, hpn, by omega, by rw [hsn]; exact hpp, rfl⟩ ⟨rfl, rfl, rfl, ⟨rfl, rfl, rfl, rfl, trivial⟩, Own.subi [0, 1, 2] (by decide) rfl rfl⟩
            omega
      · repeat' (first | (show wpA _ _ _ (.exit _) _ _ _ _; refine A_exit rfl ?_) | (show wpA _ _ _ (.cond _ _ _) _ _ _ _; (refine A_if rfl (fun h => ?_) (fun h => ?_) <;> try (exfalso; omega))))
        refine Shift.to ⟨a, n, cc, p, ?_, rfl⟩ ⟨rfl, rfl, rfl, ⟨rfl, rfl, rfl, trivial⟩, Own.subi [0, 1, 2] (by decide) rfl rfl⟩
        rw [hpp]
        unfold validR
        by_cases hib : i < rn
        · have : i = 40 := by omega
          rw [this]
        · rw [List.take_of_length_le (l := d.rej) (by omega), List.take_of_length_le (l := d.rej) (by omega)]
  rintro s ⟨a2, n2, c2, p2, hp2, rfl⟩
  refine A_freeze (by rw [hp2]; exact irow_one _) ?_
  intro H4 hle4 hr2
  have hr2 := hr2.cong hp2.symm
  have hn2 : n2 ≤ 40 := by
    have h1 := hr2.len
    have h2 : (validR A d.rej).length ≤ (d.rej.take 40).length := List.length_filter_le _ _
    simp only [List.length_map, List.length_take] at h1 h2
    omega
  have hso2 := sorted_fn hr2 (by omega)
  repeat' (first | (refine O_ef rfl (Ef_call (I := []) WideF.wide hso2 ⟨rfl, trivial⟩ rfl ?_); rintro v H5 I5 hle5 ⟨⟨a3, n3, c3, rfl, hr3⟩, rfl⟩) | refine O_nil ?_ | refine A_seq ?_ | refine A_region ?_ | refine A_ret ?_ | (show opsA _ _ _ _ _ _ _; first | (show opsA _ _ _ _ (⟨_, .load _ _, _, _, _, _⟩ :: _) _ _; first | refine O_ev WideF.wide rfl (Ev_loadB1 (i := 0) rfl rfl rfl) rfl rfl ?_ | refine O_ev WideF.wide rfl (Ev_loadB (i := 0) rfl rfl rfl) rfl rfl ?_) | (show opsA _ _ _ _ (⟨_, .fieldAddr _ _ _, _, _, _, _⟩ :: _) _ _; refine O_ev WideF.wide rfl (Ev_fieldAddr rfl rfl rfl) rfl rfl ?_) | (show opsA _ _ _ _ (⟨_, .store _ _ _, _, _, _, _⟩ :: _) _ _; first | refine O_ef rfl (Ef_store1 WideF.wide rfl rfl rfl rfl rfl ?_) | refine O_f1 (O_ef rfl (Ef_storew WideF.wide rfl rfl rfl rfl rfl ?_)))))
  first | (refine End_e (RetC rfl rfl (i := 0) rfl rfl) ?_) | (refine End_e (RetC rfl rfl (i := 1) rfl rfl) ?_)
  refine ⟨⟨_, rfl, ⟨⟨a1, n1, c1, a3, n3, c3, rfl, ?_, ?_⟩⟩⟩, rfl⟩
  · unfold validD
    rw [hA]
    exact hr1.mono (hle4.trans hle5)
  · unfold validD
    rw [hA]
    exact hr3
end Go.Proofs.Ythniohgeojenaaa
