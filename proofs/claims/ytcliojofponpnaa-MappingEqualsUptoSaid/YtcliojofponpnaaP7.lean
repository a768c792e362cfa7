/-
  mapping.Of of the example; known.
-/
import Derived.Test.YtcliojofponpnaaP6
namespace Go.Proofs.Ytcliojofponpnaa
open Go
set_option linter.unusedVariables false
set_option linter.unusedSimpArgs false
theorem EndM2_e {c : Ctx} {P : Program} {fn : Func} {post : Value → Hp → Own → Prop} {n : Nat} {e : Env} {H : Hp} {M L : Own} {dd1 dd2 : Nat} {v : Value} (h : RetOk P fn ⟨n, e, H, M, L, []⟩ v) (hv : post v H []) :
    EndMs c P fn post 2 ⟨n, e, H, .obj dd2 (.deferred (some [])) :: .obj dd1 (.deferred (some [])) :: M, L, [rmark dd2, rmark dd1]⟩ :=
  ⟨dd2, _, _, rfl, rfl, dd1, _, _, rfl, rfl, v, h, rfl, fun _ _ hs => ⟨_, ok_drop hs, rfl, hv⟩⟩
attribute [local irreducible] wpA opsA drJ drQ drE Ef Ev Shift Fn
attribute [local irreducible] unr
set_option maxRecDepth 100000 in
set_option maxHeartbeats 4000000 in
theorem Of_fn {H : Hp} {dcs : List Value} {a : Option Addr} {cp : Nat} {t : List UInt8} (hx : HRow H a 1 cp 11 [itBc t]) (hm : massL [itB t] < 34359738368) (hok : okL [itB t]) (hno : [itB t] = normL [itB t]) :
    Fn Try.prog 9 [.agg dcs.toArray, .agg (splL a 1 cp).toArray] H [] fun v _ I => v = .agg [.int .i64 0, .int .i64 1, .int .i64 (lenV [itB t]), .int .i64 0, nilV, nilV].toArray ∧ I = [] := by
  have h1 := fun Hx (h : HLe H Hx) => Size_fn (flB (hx.mono h)) hm hok hno
  have h2 := fun Hx a n cp => flows_fn (H := Hx) (a := a) (n := n) (cp := cp)
  have h3 := fun Hx (h : HLe H Hx) y => mitems_one (y := y) (hx.mono h)
  have h4 := fun Hx y => mitems_nil (H := Hx) (y := y)
  generalize lenV [itB t] = u at *
  refine Fn_ofMs 2 _ _ Try.func9 rfl Try.ntmps9 rfl fun c => ?_
  repeat' (first | (show opsA _ _ _ _ (⟨some 4, .alloc _, _, _, _, _⟩ :: _) _ _; refine O_ef rfl (Ef_alloc WideF.wide rfl ?_); intro b4) | (show opsA _ _ _ _ (⟨some 5, .alloc _, _, _, _, _⟩ :: _) _ _; refine O_ef rfl (Ef_alloc WideF.wide rfl ?_); intro b5) | (show opsA _ _ _ _ (⟨some 3, .box _ _, _, _, _, _⟩ :: _) _ _; refine O_ef rfl (Ef_boxa WideF.wide (cs := splL a 1 cp) rfl rfl ?_); intro b3; refine O_freezeBox (splL_one a 1 cp) ?_; intro H1 hle1 hb3; have g := hle1) | (show opsA _ _ _ _ (⟨_, .load _ _, _, _, _, _⟩ :: _) _ _; first | refine O_ev WideF.wide rfl (Ev_loadH rfl hb3 rfl) rfl rfl ?_ | refine O_ev WideF.wide rfl (Ev_loadH1 rfl (hb3 0 _ rfl)) rfl rfl ?_ | refine O_ev WideF.wide rfl (Ev_loadH rfl (hb3.sub 4 12) rfl) rfl rfl ?_ | refine O_ev WideF.wide rfl (Ev_loadH rfl (hb3.sub 16 12) rfl) rfl rfl ?_) | (refine O_ef rfl (Ef_call (I := []) WideF.wide (h1 _ g) ⟨rfl, trivial⟩ rfl ?_); rintro v H2 I2 hle2 ⟨rfl, rfl⟩); have hb3 := hb3.mono hle2; have g := g.trans hle2; clear hle2 | (refine A_drawM WideF.wide (.q 0 (.q 1 (.q 2 (.q 3 (.q 4 (.q 5 (.q 6 (.e 7 (.q 8 (.e 9 (.q 10 (.e 11 (.q 12 (.done [13])))))))))))))) [13] (by decide +kernel) ?_) | (refine A_drawM WideF.wide (.q 0 (.q 1 (.q 2 (.q 3 (.q 4 (.q 5 (.q 6 (.q 7 (.q 8 (.q 9 (.q 10 (.q 11 (.e 12 (.done [13])))))))))))))) [13] (by decide +kernel) ?_) | (show drQ _ _ _ ⟨_, .load _ _, _, _, _, _⟩ _ _; first | refine D_ev rfl (Ev_loadH1 rfl (hb3 1 _ rfl)) rfl rfl ?_ | refine D_ev rfl (Ev_loadH1 rfl (hb3 2 _ rfl)) rfl rfl ?_) | (refine O_ef rfl (Ef_makeMap WideF.wide rfl ?_); intro bm) | (refine O_ef rfl (Ef_call (I := []) WideF.wide (h2 _ _ _ _) ⟨rfl, trivial⟩ rfl ?_); rintro v H3 I3 hle3 ⟨⟨bf, rfl, hbf⟩, rfl⟩); have hb3 := hb3.mono hle3; have g := g.trans hle3; clear hle3 | refine O_nil ?_ | refine A_seq ?_ | refine A_region ?_ | refine A_block ?_ | (show drJ _ _ _ _ _ _ _ (.q _ _) _; refine D_q rfl ?_) | (show drJ _ _ _ _ _ _ _ (.e _ _) _; refine D_e rfl ?_) | (show drJ _ _ _ _ _ _ _ (.done _) _; refine D_done ?_; simp only [List.cons_append, List.nil_append]) | (show drQ _ _ _ _ _ _; first | refine D_ev rfl (Ev_pure rfl) rfl rfl ?_ | (show drQ _ _ _ ⟨_, .fieldAddr _ _ _, _, _, _, _⟩ _ _; refine D_ev rfl (Ev_fieldAddr rfl rfl rfl) rfl rfl ?_) | (show drQ _ _ _ ⟨_, .binOp _ _ _ _ _, _, _, _, _⟩ _ _; refine D_ev rfl (Ev_add rfl rfl (wi64 (by omega))) rfl rfl ?_) | (show drQ _ _ _ ⟨_, .build _ _, _, _, _, _⟩ _ _; refine D_ev rfl (Ev_build (vs := [(_, _), (_, _)]) ⟨rfl, rfl, rfl, rfl, trivial⟩ rfl) rfl rfl ?_)) | (show drE _ _ _ _ _ _ _; (show drE _ _ _ _ ⟨_, .store _ _ _, _, _, _, _⟩ _ _; first | (refine E_ef rfl (Ef_store1 WideF.wide rfl rfl rfl rfl rfl ?_); refine ⟨Grow.same rfl rfl, ?_⟩) | (refine E_ef rfl (Ef_f2 (Ef_storew WideF.wide rfl rfl rfl rfl rfl ?_)); refine ⟨Grow.same rfl rfl, ?_⟩) | (refine E_ef rfl (Ef_f2 (Ef_store1 WideF.wide rfl rfl rfl rfl rfl ?_)); refine ⟨Grow.same rfl rfl, ?_⟩))) | (show opsA _ _ _ _ _ _ _; first | refine O_ev WideF.wide rfl (Ev_pure rfl) rfl rfl ?_ | (show opsA _ _ _ _ (⟨_, .fieldAddr _ _ _, _, _, _, _⟩ :: _) _ _; refine O_ev WideF.wide rfl (Ev_fieldAddr rfl rfl rfl) rfl rfl ?_) | (show opsA _ _ _ _ (⟨_, .build _ _, _, _, _, _⟩ :: _) _ _; refine O_ev WideF.wide rfl (Ev_build (vs := [(_, _)]) ⟨rfl, rfl, trivial⟩ rfl) rfl rfl ?_) | (show opsA _ _ _ _ (⟨_, .alloc _, _, _, _, _⟩ :: _) _ _; (refine O_ef rfl (Ef_alloc WideF.wide rfl ?_); intro b)) | (show opsA _ _ _ _ (⟨_, .box _ _, _, _, _, _⟩ :: _) _ _; (refine O_ef rfl (Ef_boxa WideF.wide rfl rfl ?_); intro b)) | (show opsA _ _ _ _ (⟨_, .store _ _ _, _, _, _, _⟩ :: _) _ _; first | refine O_ef rfl (Ef_storew WideF.wide rfl rfl rfl rfl rfl ?_) | refine O_ef rfl (Ef_store1 WideF.wide rfl rfl rfl rfl rfl ?_) | refine O_f2 (O_ef rfl (Ef_storew WideF.wide rfl rfl rfl rfl rfl ?_)))) | (show wpA _ _ _ (.cond _ _ _) _ _ _ _; (refine A_if rfl (fun h => ?_) (fun h => ?_) <;> try (exfalso; omega))))
  all_goals try (exfalso; exact absurd trivial (by assumption))
  refine A_rangeFuncD WideF.wide rfl (cap := [_]) rfl ?_
  intro dd1 l1 r1 hfr1 _ _ _ _ _
  refine ⟨_, Fn.frame (flows1_fn hbf (h4 _ _)) _, fun v H4 I4 hle4 hq => ?_⟩
  obtain ⟨_, rfl, _⟩ := hq
  refine ⟨r1, _, rfl, by rw [hfr1.1]; decide, ?_⟩
  rw [hfr1.2]
  dsimp only
  have hb3 := hb3.mono hle4
  have g := g.trans hle4
  repeat' (first | (show opsA _ _ _ _ (⟨_, .load _ _, _, _, _, _⟩ :: _) _ _; refine O_ev WideF.wide rfl (Ev_loadH rfl (hb3.sub 4 12) rfl) rfl rfl ?_) | (refine O_ef rfl (Ef_call (I := []) WideF.wide (h2 _ _ _ _) ⟨rfl, trivial⟩ rfl ?_); rintro v H5 I5 hle5 ⟨⟨bf2, rfl, hbf2⟩, rfl⟩); have g := g.trans hle5; clear hle5 | refine O_nil ?_ | refine A_seq ?_ | refine A_region ?_ | refine A_block ?_ | (show opsA _ _ _ _ _ _ _; (show opsA _ _ _ _ (⟨_, .fieldAddr _ _ _, _, _, _, _⟩ :: _) _ _; refine O_ev WideF.wide rfl (Ev_fieldAddr rfl rfl rfl) rfl rfl ?_)))
  refine A_rangeFuncD WideF.wide rfl (cap := [_]) rfl ?_
  intro dd2 l2 r2 hfr2 _ _ _ _ _
  refine ⟨_, Fn.frame (flows1_fn hbf2 (h3 _ g _)) _, fun v H6 I6 hle6 hq => ?_⟩
  obtain ⟨_, rfl, _⟩ := hq
  refine ⟨r2, _, rfl, by rw [hfr2.1]; decide, ?_⟩
  rw [hfr2.2]
  dsimp only
  refine A_shift (Shift.lek ⟨120, [(4, .pointer (some ⟨b4, 0, none⟩)), (5, .pointer (some ⟨b5, 0, none⟩))], H6, [.obj dd2 (.deferred (some [])), .obj dd1 (.deferred (some [])), .box b5 [.int .i64 0, .int .i64 1, .int .i64 u, .int .i64 0, nilV, nilV], .box b4 [.int .i64 0, .int .i64 0, .int .i64 0, .int .i64 0, nilV, nilV]], [], [rmark dd2, rmark dd1]⟩ ⟨rfl, rfl, rfl, ⟨rfl, rfl, trivial⟩, Own.subi [0, 1, 8, 9] (by decide) rfl rfl⟩ (Shift.pure ?_))
  repeat' (first | refine O_nil ?_ | refine A_seq ?_ | refine A_region ?_ | refine A_ret ?_ | (show opsA _ _ _ _ _ _ _; first | (show opsA _ _ _ _ (⟨_, .load _ _, _, _, _, _⟩ :: _) _ _; refine O_ev WideF.wide rfl (Ev_loadB (i := 2) rfl rfl rfl) rfl rfl ?_) | (show opsA _ _ _ _ (⟨_, .store _ _ _, _, _, _, _⟩ :: _) _ _; refine O_f3 (O_ef rfl (Ef_storew WideF.wide rfl rfl rfl rfl rfl ?_)))))
  refine Shift.lek ⟨120, [(4, .pointer (some ⟨b4, 0, none⟩))], H6, [.obj dd2 (.deferred (some [])), .obj dd1 (.deferred (some [])), .box b4 [.int .i64 0, .int .i64 1, .int .i64 u, .int .i64 0, nilV, nilV]], [], [rmark dd2, rmark dd1]⟩ ⟨rfl, rfl, rfl, ⟨rfl, trivial⟩, Own.subi [1, 2, 0] (by decide) rfl rfl⟩ (Shift.pure (EndM2_e (RetC (i := 0) rfl rfl rfl rfl) ⟨rfl, rfl⟩))
theorem bV_mass : massL [itB [98]] < 34359738368 := by simp [itB, massL, Item.mass, massR, Head.mass, head0]
theorem chars98 : chars [98] = some [[98]] := by
  have he : enc [98] 0 = 1 := by
    unfold enc
    rw [if_pos]
    simp [bat]
  rw [chars_step (by simp) (by rw [he]; omega), he]
  show (chars []).map ([98] :: ·) = some [[98]]
  rw [chars_nil]; rfl
theorem v98 : valid [98] := by unfold valid; rw [chars98]; rfl
theorem n98 : nchars [98] = 1 := by unfold nchars; rw [chars98]; rfl
theorem bV_ok : okL [itB [98]] := by
  intro x hx
  rw [List.mem_singleton] at hx
  subst hx
  intro _
  exact v98
theorem bV_norm : [itB [98]] = normL [itB [98]] := by
  have e : normItem (itB [98]) = itB [98] := by rw [normItem_eq]; rfl
  unfold normL
  rw [List.map_cons, List.map_nil, e]
  show _ = pushI [] (itB [98])
  unfold pushI
  rw [if_neg (by rintro (⟨h, _⟩ | ⟨_, h⟩) <;> cases h)]
  rfl
theorem bV_units : (itB [98]).units = 1 := by
  show (if (1 : Int) = 1 then count [98] else 1) = 1
  rw [if_pos rfl]; unfold count; rw [if_pos v98, n98]; rfl
theorem bV_len : lenV [itB [98]] = 1 := by
  unfold lenV
  rw [if_pos bV_ok]
  simp [usum, bV_units]
theorem eq_pos (a b c d : Int) : ∀ w, (Op.equalIn 10000 29 (.agg [.int .i64 a, .int .i64 b].toArray) (.agg [.int .i64 c, .int .i64 d].toArray)).run Try.prog w = .ok (decide (a = c ∧ b = d)) w := fun w => by
  have key : ∀ m : Nat, (Op.equalIn (m + 2) 29 (.agg [.int .i64 a, .int .i64 b].toArray) (.agg [.int .i64 c, .int .i64 d].toArray)).run Try.prog w = .ok (decide (a = c ∧ b = d)) w := fun m => by
    have hf := fieldsOf_of Try.underlying29
    rw [run_equalIn_agg (P := Try.prog) w (m + 1) _ _ _ (by rw [hf]; exact Try.underlying29) Try.stoodInHeld29, hf]
    have h1 := fun x y : Int => run_equalIn_int (P := Try.prog) w m 3 .i64 .i64 x y Try.underlying3
    simp [Op.eqFields, part, Try.isAgg3, h1]
    by_cases h2 : a = c <;> by_cases h3 : b = d <;> simp [h2, h3]
  exact key 9998
set_option maxRecDepth 100000 in
set_option maxHeartbeats 4000000 in
theorem known_fn {H : Hp} : Fn Try.prog 4 [] H [] fun v _ I => v = .bool true ∧ I = [] := by
  have h1 := fun Hx => Map_1 (H := Hx)
  have h2 := fun Hx => Map_2 (H := Hx)
  have h3 := fun Hx => Unit_1 (H := Hx)
  have h4 := fun Hx dcs b c (hx : HRow Hx (some ⟨b, 0, none⟩) 1 c 11 [itBc [98]]) => Of_fn (dcs := dcs) hx bV_mass bV_ok bV_norm
  rw [bV_len] at h4
  refine Fn_of _ _ Try.func4 rfl Try.ntmps4 rfl fun c => ?_
  repeat' (first | (refine O_ef rfl (Ef_call (I := []) WideF.wide (h1 _) ⟨rfl, rfl, rfl, trivial⟩ rfl ?_); rintro v H1 I1 hle1 ⟨rfl, rfl⟩) | (refine O_ef rfl (Ef_call (I := []) WideF.wide (h2 _) ⟨rfl, rfl, rfl, trivial⟩ rfl ?_); rintro v H2 I2 hle2 ⟨rfl, rfl⟩) | (refine O_ef rfl (Ef_call (I := []) WideF.wide (h3 _) ⟨rfl, rfl, trivial⟩ rfl ?_); rintro v H3 I3 hle3 ⟨rfl, rfl⟩) | (show opsA _ _ _ _ (⟨some 30, .buildSlice _ _ _, _, _, _, _⟩ :: _) _ _; refine O_ef rfl (Ef_build1a WideF.wide rfl rfl rfl rfl rfl ?_); intro bq; refine O_freeze (css := [itBc [98]]) (ones_of (by decide)) ?_; intro H4 hle4 r4) | (refine O_ef rfl (Ef_call (I := []) WideF.wide (h4 _ _ _ _ r4) ⟨rfl, rfl, trivial⟩ rfl ?_); rintro v H5 I5 hle5 ⟨rfl, rfl⟩) | (refine O_ev WideF.wide rfl (Ev_eqS rfl rfl Try.eqGuardType29 (eq_pos _ _ _ _)) rfl rfl ?_) | refine O_nil ?_ | refine A_seq ?_ | refine A_region ?_ | refine A_ret ?_ | (show opsA _ _ _ _ _ _ _; first | (refine O_split rfl rfl (fun h => ?_) (fun h => ?_) <;> try (exfalso; omega)) | refine O_ev WideF.wide rfl (Ev_pure rfl) rfl rfl ?_ | (show opsA _ _ _ _ (⟨_, .load _ _, _, _, _, _⟩ :: _) _ _; first | refine O_ev WideF.wide rfl (Ev_loadB1 (i := 0) rfl rfl rfl) rfl rfl ?_ | refine O_ev WideF.wide rfl (Ev_loadB (i := 0) rfl rfl rfl) rfl rfl ?_ | refine O_ev WideF.wide rfl (Ev_loadB (i := 1) rfl rfl rfl) rfl rfl ?_ | refine O_ev WideF.wide rfl (Ev_loadB (i := 2) rfl rfl rfl) rfl rfl ?_ | refine O_ev WideF.wide rfl (Ev_loadB (i := 3) rfl rfl rfl) rfl rfl ?_ | refine O_ev WideF.wide rfl (Ev_loadB (i := 4) rfl rfl rfl) rfl rfl ?_ | refine O_ev WideF.wide rfl (Ev_loadB (i := 5) rfl rfl rfl) rfl rfl ?_) | (show opsA _ _ _ _ (⟨_, .fieldAddr _ _ _, _, _, _, _⟩ :: _) _ _; refine O_ev WideF.wide rfl (Ev_fieldAddr rfl rfl rfl) rfl rfl ?_) | (show opsA _ _ _ _ (⟨_, .buildSlice _ _ _, _, _, _, _⟩ :: _) _ _; (refine O_ef rfl (Ef_build1a WideF.wide rfl rfl rfl rfl rfl ?_); intro b)) | (show opsA _ _ _ _ (⟨_, .unOp _ _ _, _, _, _, _⟩ :: _) _ _; refine O_ev WideF.wide rfl (Ev_notb rfl) rfl rfl ?_) | (show opsA _ _ _ _ (⟨_, .build _ _, _, _, _, _⟩ :: _) _ _; first | refine O_ev WideF.wide rfl (Ev_build (vs := [(_, _)]) ⟨rfl, rfl, trivial⟩ rfl) rfl rfl ?_ | refine O_ev WideF.wide rfl (Ev_build (vs := [(_, _), (_, _)]) ⟨rfl, rfl, rfl, rfl, trivial⟩ rfl) rfl rfl ?_ | refine O_ev WideF.wide rfl (Ev_build (vs := [(_, _), (_, _), (_, _)]) ⟨rfl, rfl, rfl, rfl, rfl, rfl, trivial⟩ rfl) rfl rfl ?_ | refine O_ev WideF.wide rfl (Ev_build (vs := [(_, _), (_, _), (_, _), (_, _)]) ⟨rfl, rfl, rfl, rfl, rfl, rfl, rfl, rfl, trivial⟩ rfl) rfl rfl ?_) | (show opsA _ _ _ _ (⟨_, .alloc _, _, _, _, _⟩ :: _) _ _; (refine O_ef rfl (Ef_alloc WideF.wide rfl ?_); intro b)) | (show opsA _ _ _ _ (⟨_, .store _ _ _, _, _, _, _⟩ :: _) _ _; refine O_ef rfl (Ef_storew WideF.wide rfl rfl rfl rfl rfl ?_))))
  all_goals first
    | (exfalso; omega)
    | exact End_e (Ret1 rfl rfl) ⟨rfl, rfl⟩
    | (exfalso; exact absurd rfl (by assumption))
    | trace_state
end Go.Proofs.Ytcliojofponpnaa
