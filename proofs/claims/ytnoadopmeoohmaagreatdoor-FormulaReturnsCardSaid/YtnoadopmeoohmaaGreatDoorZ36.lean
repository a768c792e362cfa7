import Derived.Test.YtnoadopmeoohmaaGreatDoorZ35
/-
  Primaries and arguments where they fail; the parser where it fails.
-/
namespace Go.Proofs.YtnoadopmeoohmaaGreatDoor
open Go
set_option linter.unusedVariables false
set_option linter.unusedSimpArgs false
section
variable {F : Fence} {P : Program} {c : Ctx} {K : SP} {X : List (Nat × SP)} {R : SP}
/-- .. where the second waits for the first -/
theorem A_drawX2 (hF : WideF F) [hm : MixC P] {id n : Nat} {o0 o1 o2 o3 : Oper} {more : List Oper} {e0 : Env} {H : Hp} {M : Own} {D : List Deferred} {d0 d1 d2 : Nat} {v0 v1 v2 : Value}
    (hck : ordC (o0 :: o1 :: o2 :: o3 :: more) 0 = true)
    (hd0 : o0.dst = some d0 ∧ o0.guard = none) (hd1 : o1.dst = some d1 ∧ o1.guard = none) (hd2 : o2.dst = some d2 ∧ o2.guard = none) (hg3 : o3.guard = none)
    (hb : ∀ t v, e0.find t = some v → Nat.beq d0 t = false ∧ Nat.beq d1 t = false ∧ Nat.beq d2 t = false) (hdd : Nat.beq d0 d2 = false ∧ Nat.beq d1 d2 = false) (hd3 : Nat.beq d1 d0 = false ∧ Nat.beq d2 d0 = false) (hw1 : (o1.after.toList.any fun e => Region.binds .any e && Nat.beq e.on 0) = true) (hn : Nat.blt d0 n = true ∧ Nat.blt d1 n = true ∧ Nat.blt d2 n = true)
    (h3 : (o3.after.toList.any fun e => Region.binds .any e && Nat.beq e.on 2) = true)
    (hmore : more.all (fun o => o.after.toList.any fun e => Region.binds .any e && Nat.ble 3 e.on) = true)
    (a0 : ∀ e : Env, (∀ t v, e0.find t = some v → e.find t = some v) → Ev P o0 e H (M ++ []) v0) (a1 : ∀ e : Env, (∀ t v, e0.find t = some v → e.find t = some v) → e.find d0 = some v0 → Ev P o1 e H (M ++ []) v1) (a2 : ∀ e : Env, (∀ t v, e0.find t = some v → e.find t = some v) → Ev P o2 e H (M ++ []) v2)
    (x3 : ∀ e : Env, (∀ t v, e0.find t = some v → e.find t = some v) → e.find d2 = some v2 → EfX F P c o3 ⟨n, e, H, M, [], D⟩) :
    wpA F P c (.region id (o0 :: o1 :: o2 :: o3 :: more).toArray true) K X R ⟨n, e0, H, M, [], D⟩ := by
  have quiet : ∀ (e : Env) (o : Oper) (d : Nat) (v : Value), o.dst = some d → Nat.blt d n = true → Ev P o e H (M ++ []) v → Ef F P c o ⟨n, e, H, M, [], D⟩ (fun s => s = ⟨n, (d, v) :: e, H, M, [], D⟩) := fun e o d v h1 h2 h3 => Ef_ev hF h3 h1 h2 rfl
  refine A_drawJX hF (fun listed s => ∃ e : Env, s = ⟨n, e, H, M, [], D⟩ ∧ (∀ t v, e0.find t = some v → e.find t = some v) ∧ (listed.getD 0 false = true → e.find d0 = some v0) ∧ (listed.getD 2 false = true → e.find d2 = some v2) ∧ ∀ i, 3 ≤ i → listed.getD i false = false) ?_ ?_ ?_ ?_
  · intro i o ho e he
    rw [opget_eq] at ho
    have := ordC_at hck ho e he
    omega
  · refine ⟨e0, rfl, fun _ _ h => h, fun h => ?_, fun h => ?_, fun i _ => ?_⟩
    · simp only [Array.getD_eq_getD_getElem?, Array.getElem?_replicate] at h
      split at h <;> simp at h
    · simp only [Array.getD_eq_getD_getElem?, Array.getElem?_replicate] at h
      split at h <;> simp at h
    · simp only [Array.getD_eq_getD_getElem?, Array.getElem?_replicate]
      split <;> rfl
  · rintro listed s i o ho hl hall ⟨e, rfl, he, hy, hz, hno⟩
    have hgu : ∀ o : Oper, o.guard = none → want (o0 :: o1 :: o2 :: o3 :: more) o e = some true := fun o h => by unfold want; rw [h]
    have keepno : ∀ k, k < 3 → ∀ i, 3 ≤ i → (listed.setIfInBounds k true).getD i false = false := fun k hk i hi => by rw [getD_set_ne false (by omega)]; exact hno i hi
    match i, ho with
    | 0, ho =>
      obtain rfl := Option.some.inj ho
      refine ⟨hgu _ hd0.2, .inl (Ef_mapK (quiet e _ d0 v0 hd0.1 hn.1 (a0 e he)) ?_)⟩
      rintro s a w hs rfl
      exact ⟨_, hs, _, rfl, fun t v ht => find_cons (hb t v ht).1 (he t v ht), fun _ => find_head, fun h => find_cons hdd.1 (hz (by rw [getD_set_ne false (by omega)] at h; exact h)), keepno 0 (by omega)⟩
    | 1, ho =>
      obtain rfl := Option.some.inj ho
      obtain ⟨e', he', hb'⟩ := List.any_eq_true.1 hw1
      simp only [Bool.and_eq_true] at hb'
      have hon := Nat.eq_of_beq_eq_true hb'.2
      have h2 := hall e' (by simpa using he') hb'.1
      rw [hon] at h2
      refine ⟨hgu _ hd1.2, .inl (Ef_mapK (quiet e _ d1 v1 hd1.1 hn.2.1 (a1 e he (hy h2))) ?_)⟩
      rintro s a w hs rfl
      exact ⟨_, hs, _, rfl, fun t v ht => find_cons (hb t v ht).2.1 (he t v ht), fun h => find_cons hd3.1 (hy (by rw [getD_set_ne false (by omega)] at h; exact h)), fun h => find_cons hdd.2 (hz (by rw [getD_set_ne false (by omega)] at h; exact h)), keepno 1 (by omega)⟩
    | 2, ho =>
      obtain rfl := Option.some.inj ho
      refine ⟨hgu _ hd2.2, .inl (Ef_mapK (quiet e _ d2 v2 hd2.1 hn.2.2 (a2 e he)) ?_)⟩
      rintro s a w hs rfl
      exact ⟨_, hs, _, rfl, fun t v ht => find_cons (hb t v ht).2.2 (he t v ht), fun h => find_cons hd3.2 (hy (by rw [getD_set_ne false (by omega)] at h; exact h)), fun _ => find_head, keepno 2 (by omega)⟩
    | 3, ho =>
      obtain rfl := Option.some.inj ho
      obtain ⟨e', he', hb'⟩ := List.any_eq_true.1 h3
      simp only [Bool.and_eq_true] at hb'
      have hon := Nat.eq_of_beq_eq_true hb'.2
      have h2 := hall e' (by simpa using he') hb'.1
      rw [hon] at h2
      exact ⟨hgu _ hg3, .inr (x3 e he (hz h2))⟩
    | i + 4, ho =>
      exfalso
      have ho' : opget more i = some o := ho
      rw [opget_eq] at ho'
      have h9 := List.all_eq_true.1 hmore o (List.mem_of_getElem? ho')
      obtain ⟨e', he', hb'⟩ := List.any_eq_true.1 h9
      simp only [Bool.and_eq_true] at hb'
      have h8 := hall e' (by simpa using he') hb'.1
      rw [hno e'.on (Nat.le_of_ble_eq_true hb'.2)] at h8
      cases h8
  · rintro listed s hall ⟨e, rfl, he, hy, hz, hno⟩
    have h1 := hall 3 (by simp)
    rw [hno 3 (by omega)] at h1
    cases h1
end
theorem fail_fn' {H : Hp} {s kd tx : List UInt8} {p : Nat} {b : Nat} {e : Int} (he : e ≠ 0) : FnX Tryz.prog 85 [.pointer (some ⟨b, 0, none⟩), .int .i64 e] H [.box b [sv s, sv kd, sv tx, .int .i64 p]] isFail :=
  (fail_fn (t := ⟨kd, tx, p⟩)).mono fun ch h => ⟨e, p, he, h⟩
theorem expect_no' {H : Hp} {s y : List UInt8} {t : Tok} {b : Nat} (hy : ¬ t.kind = y) : FnX Tryz.prog 43 [.pointer (some ⟨b, 0, none⟩), sv y] H [.box b (pcs s t)] isFail :=
  (expect_no hy).mono fun ch h => ⟨14, t.pos, by decide, h⟩
attribute [local irreducible] wpA opsA drJ drQ drE Ef Ev Shift Fn
set_option maxRecDepth 100000 in
set_option maxHeartbeats 8000000 in
theorem args_bad {s : List UInt8} (hs : s.length < 4611686018427387904) {k : Nat} (hk : k ≤ 1000000) (hop : ∀ j, j ≤ k → OC s 42 1 j) (hbad : ∀ j, j ≤ k → XC s 42 1 j) : XA s (k + 1) := by
  intro H t er pp pb hV ht h
  rw [arg_succ] at h
  by_cases hk0 : t.kind = [41]
  · rw [if_pos hk0] at h
    cases h
  rw [if_neg hk0] at h
  have ka := fun Hx a (hr : HRow Hx a 1 1 1 [[sv [41]]]) => accept_no (s := s) (b := pb) hr hk0
  cases hm : prs s k 1 t with
  | no => rw [hm] at h; cases h
  | err e p =>
    have kr := fun Hx (hx : HLe H Hx) => hbad k (Nat.le_refl _) Hx t e p pb (hV.mono hx) ht hm
    refine FnX_of _ _ Tryz.func223 rfl Tryz.ntmps223 rfl fun c hc => ?_
    repeat' (first | (refine O_ef rfl (Ef_build11 WideF.wide rfl rfl rfl ?_); intro bk; refine O_freeze (ones_of rfl) ?_; intro H1 hk1 hr1) | (show opsA _ _ _ _ (⟨some 11, .call _, _, _, _, _⟩ :: _) _ _; refine O_ef rfl (Ef_call0 WideF.wide (ka _ _ hr1) ⟨rfl, rfl, trivial⟩ rfl ?_); rintro v H2 I2 hle2 ⟨rfl, rfl⟩) | (show wpA _ _ _ (.region 4 _ _) _ _ _ _; refine A_fail 1 ?_; simp only [List.take_succ_cons, List.take_zero, List.drop_succ_cons, List.drop_zero]) | refine O_nil ?_ | refine A_seq ?_ | refine A_region ?_ | refine A_skip ?_ | (show opsA _ _ _ _ _ _ _; refine O_ev WideF.wide rfl (Ev_pure rfl) rfl rfl ?_) | (show wpA _ _ _ (.cond _ _ _) _ _ _ _; refine A_iffalse rfl ?_))
    all_goals first
      | (exfalso; omega)
      | (exfalso; contradiction)
      | (exfalso; exact absurd trivial (by assumption))
      | (exfalso; exact absurd rfl (by assumption))
      | exact OX_efx rfl (EfX_call (I := [_]) (M' := []) WideF.wide (kr _ (hk1.trans hle2)) ⟨rfl, trivial⟩ fun ch H' _ hp => hc _ _ hp rfl)
      | trace_state

  | ok n1 t1 =>
    rw [hm] at h
    dsimp only at h
    have kr := fun Hx (hx : HLe H Hx) => hop k (Nat.le_refl _) Hx t n1 t1 pb (hV.mono hx) ht hm
    refine FnX_of _ _ Tryz.func223 rfl Tryz.ntmps223 rfl fun c hc => ?_
    repeat' (first | (refine O_ef rfl (Ef_build11 WideF.wide rfl rfl rfl ?_); intro bk; refine O_freeze (ones_of rfl) ?_; intro H1 hk1 hr1) | (show opsA _ _ _ _ (⟨some 11, .call _, _, _, _, _⟩ :: _) _ _; refine O_ef rfl (Ef_call0 WideF.wide (ka _ _ hr1) ⟨rfl, rfl, trivial⟩ rfl ?_); rintro v H2 I2 hle2 ⟨rfl, rfl⟩) | (show opsA _ _ _ _ (⟨some 16, .call _, _, _, _, _⟩ :: _) _ _; refine O_ef rfl (Ef_call0 WideF.wide (kr _ (hk1.trans hle2)) ⟨rfl, trivial⟩ rfl ?_); rintro v H3 I3 hle3 ⟨⟨a3, n3, c3, rfl, hn3⟩, rfl, hok3⟩) | (refine O_ef rfl (Ef_buildn WideF.wide (xs := [_]) (vs := [.agg _]) (css := [ncs n1 a3 n3 c3]) rfl ⟨rfl, trivial⟩ rfl rfl rfl rfl rfl rfl ?_); intro b3) | refine O_nil ?_ | refine A_seq ?_ | refine A_region ?_ | refine A_skip ?_ | refine A_block ?_ | (show opsA _ _ _ _ _ _ _; refine O_ev WideF.wide rfl (Ev_pure rfl) rfl rfl ?_) | (show wpA _ _ _ (.cond _ _ _) _ _ _ _; refine A_iffalse rfl ?_))
    all_goals try (exfalso; first | contradiction | exact absurd trivial (by assumption) | exact absurd rfl (by assumption))
    refine A_loopu (fun q st => ∃ (j : Nat) (l1 : List Nd) (tq : Tok) (css : List (List Value)) (a : Option Addr) (m cp : Nat) (Hq : Hp), q = j ∧ j ≤ k ∧ m + j ≤ k + 1 ∧ agl s j l1 tq = .err er pp ∧ TokOk s tq ∧ HLe H Hq ∧ All2 (NodeH Hq) css l1 ∧ css.length = m ∧
      st = ⟨34, [(0, .pointer (some ⟨pb, 0, none⟩)), (5, .slice a m cp)], Hq, [.box pb (pcs s tq), .row (.slice a m cp) 4 css], [], []⟩) ?_ ?_
    · exact Shift.to ⟨_, k, [n1], t1, _, _, 1, _, _, rfl, Nat.le_refl _, by omega, h, hok3, (hk1.trans hle2).trans hle3, .cons (NodeH.of hn3) .nil, rfl, rfl⟩ ⟨rfl, rfl, rfl, ⟨rfl, rfl, trivial⟩, Own.subi [1, 0] (by decide) rfl rfl⟩
    rintro q st ⟨j, l1, tq, css, a, m, cp, Hq, rfl, hjk, hmj, hl, htq, hle, hall, hlen, rfl⟩
    cases q with
    | zero => rw [agl_zero] at hl; cases hl
    | succ q =>
      rw [agl_succ] at hl
      by_cases hcm : tq.kind = [44]
      · rw [if_pos hcm] at hl
        have kb := fun Hx a (hr : HRow Hx a 1 1 1 [[sv [44]]]) => accept_yes (b := pb) hs htq hr hcm
        cases hm2 : prs s q 1 (nxt s tq) with
        | no => rw [hm2] at hl; cases hl
        | err e p =>
          have k2 := fun Hx (hx : HLe Hq Hx) => hbad q (by omega) Hx (nxt s tq) e p pb ((hV.mono hle).mono hx) htq.nxt hm2
          repeat' (first | (refine O_ef rfl (Ef_build11 WideF.wide rfl rfl rfl ?_); intro bk; refine O_freeze (ones_of rfl) ?_; intro H1 hk1 hr1) | (show opsA _ _ _ _ (⟨some 21, .call _, _, _, _, _⟩ :: _) _ _; refine O_ef rfl (Ef_call (I := [_]) WideF.wide (kb _ _ hr1) ⟨rfl, rfl, trivial⟩ rfl ?_); rintro v H2 I2 hle2 ⟨rfl, rfl⟩) | (show wpA _ _ _ (.region 9 _ _) _ _ _ _; refine A_fail 2 ?_; simp only [List.take_succ_cons, List.take_zero, List.drop_succ_cons, List.drop_zero]) | refine O_nil ?_ | refine A_seq ?_ | refine A_region ?_ | refine A_skip ?_ | refine A_block ?_ | (show opsA _ _ _ _ _ _ _; first | refine O_ev WideF.wide rfl (Ev_pure rfl) rfl rfl ?_ | (show opsA _ _ _ _ (⟨_, .unOp _ _ _, _, _, _, _⟩ :: _) _ _; refine O_ev WideF.wide rfl (Ev_notb rfl) rfl rfl ?_)) | (show wpA _ _ _ (.cond _ _ _) _ _ _ _; refine A_iffalse rfl ?_))
          all_goals first
            | (exfalso; omega)
            | (exfalso; contradiction)
            | (exfalso; exact absurd trivial (by assumption))
            | (exfalso; exact absurd rfl (by assumption))
            | exact OX_efx rfl (EfX_call (I := [_]) WideF.wide (k2 _ (hk1.trans hle2)) ⟨rfl, trivial⟩ fun ch H' _ hp => hc _ _ hp rfl)
            | trace_state

        | ok n2 t2 =>
          rw [hm2] at hl
          dsimp only at hl
          have k2 := fun Hx (hx : HLe Hq Hx) => hop q (by omega) Hx (nxt s tq) n2 t2 pb ((hV.mono hle).mono hx) htq.nxt hm2
          repeat' (first | (refine O_ef rfl (Ef_build11 WideF.wide rfl rfl rfl ?_); intro bk; refine O_freeze (ones_of rfl) ?_; intro H1 hk1 hr1) | (show opsA _ _ _ _ (⟨some 21, .call _, _, _, _, _⟩ :: _) _ _; refine O_ef rfl (Ef_call (I := [_]) WideF.wide (kb _ _ hr1) ⟨rfl, rfl, trivial⟩ rfl ?_); rintro v H2 I2 hle2 ⟨rfl, rfl⟩) | (show opsA _ _ _ _ (⟨some 31, .call _, _, _, _, _⟩ :: _) _ _; refine O_ef rfl (Ef_call (I := [_]) WideF.wide (k2 _ (hk1.trans hle2)) ⟨rfl, trivial⟩ rfl ?_); rintro v H3 I3 hle3 ⟨⟨a4, n4, c4, rfl, hn4⟩, rfl, hok4⟩) | (refine O_ef rfl (Ef_buildF WideF.wide (xs := [_]) (vs := [.agg _]) (css := [ncs n2 a4 n4 c4]) rfl ⟨rfl, trivial⟩ rfl rfl rfl rfl rfl rfl (ncs_one1 _ _ _ _) ?_); intro b4 H4 hle4 hr4) | (refine O_f1 (O_ef rfl (Ef_appendH (css := css) WideF.wide rfl rfl hr4 rfl rfl (by first | omega | (simp; omega)) (by first | omega | (simp; omega)) rfl ?_)); intro a5 c5) | refine O_nil ?_ | refine A_seq ?_ | refine A_region ?_ | refine A_skip ?_ | refine A_block ?_ | (show opsA _ _ _ _ _ _ _; first | refine O_ev WideF.wide rfl (Ev_pure rfl) rfl rfl ?_ | (show opsA _ _ _ _ (⟨_, .unOp _ _ _, _, _, _, _⟩ :: _) _ _; refine O_ev WideF.wide rfl (Ev_notb rfl) rfl rfl ?_)) | (show wpA _ _ _ (.cond _ _ _) _ _ _ _; refine A_iffalse rfl ?_))
          all_goals first
            | (exfalso; contradiction)
            | (exfalso; exact absurd trivial (by assumption))
            | (exfalso; exact absurd rfl (by assumption))
            | exact Shift.to ⟨_, Nat.lt_succ_self _, q, l1 ++ [n2], t2, css ++ [ncs n2 a4 n4 c4], _, (css ++ [ncs n2 a4 n4 c4]).length, _, _, rfl, by omega, (by simp; omega), hl, hok4, (((hle.trans hk1).trans hle2).trans hle3).trans hle4, (hall.mono fun _ _ h => h.mono (((hk1.trans hle2).trans hle3).trans hle4)).append (.cons ((NodeH.of hn4).mono hle4) .nil), rfl, rfl⟩ ⟨rfl, rfl, rfl, ⟨rfl, rfl, trivial⟩, Own.subi [1, 0] (by decide) rfl rfl⟩
            | trace_state
      · rw [if_neg hcm] at hl
        by_cases hd : tq.kind = [41]
        · rw [if_pos hd] at hl; cases hl
        · have kb := fun Hx a (hr : HRow Hx a 1 1 1 [[sv [44]]]) => accept_no (s := s) (b := pb) hr hcm
          repeat' (first | (refine O_ef rfl (Ef_build11 WideF.wide rfl rfl rfl ?_); intro bk; refine O_freeze (ones_of rfl) ?_; intro H1 hk1 hr1) | (show opsA _ _ _ _ (⟨some 21, .call _, _, _, _, _⟩ :: _) _ _; refine O_ef rfl (Ef_call (I := [_]) WideF.wide (kb _ _ hr1) ⟨rfl, rfl, trivial⟩ rfl ?_); rintro v H2 I2 hle2 ⟨rfl, rfl⟩) | (show wpA _ _ _ (.region 7 _ _) _ _ _ _; refine A_fail 1 ?_; simp only [List.take_succ_cons, List.take_zero, List.drop_succ_cons, List.drop_zero]) | refine O_nil ?_ | refine A_seq ?_ | refine A_region ?_ | refine A_block ?_ | (show opsA _ _ _ _ _ _ _; first | refine O_ev WideF.wide rfl (Ev_pure rfl) rfl rfl ?_ | (show opsA _ _ _ _ (⟨_, .unOp _ _ _, _, _, _, _⟩ :: _) _ _; refine O_ev WideF.wide rfl (Ev_notb rfl) rfl rfl ?_)) | (show wpA _ _ _ (.cond _ _ _) _ _ _ _; refine A_iftrue rfl ?_))
          all_goals first
            | (exfalso; omega)
            | (exfalso; contradiction)
            | (exfalso; exact absurd trivial (by assumption))
            | (exfalso; exact absurd rfl (by assumption))
            | exact OX_efx rfl (EfX_call (I := [_]) WideF.wide (expect_no' hd) ⟨rfl, rfl, trivial⟩ fun ch H' _ hp => hc _ _ hp rfl)
            | trace_state
set_option maxRecDepth 100000 in
set_option maxHeartbeats 8000000 in
theorem bad_num {s tx : List UInt8} {p : Nat} (hs : s.length ≤ 1000000) {H : Hp} {pb : Nat} (hV : VarsH H) (ht : TokOk s ⟨[110], tx, p⟩) (hd : (digR tx).2 ≠ 0) :
    FnX Tryz.prog 222 [.pointer (some ⟨pb, 0, none⟩)] H [.box pb [sv s, sv [110], sv tx, .int .i64 p]] isFail := by
  have hle := ht.le
  dsimp only at hle
  have kd := digits_fn (H := H) (l := tx) (by omega) hV
  refine FnX_of _ _ Tryz.func222 rfl Tryz.ntmps222 rfl fun c hc => ?_
  repeat' (first | (refine O_ev WideF.wide rfl (Ev_seqs rfl rfl) rfl rfl ?_) | (refine O_ef rfl (Ef_callp WideF.wide (kd) ⟨rfl, trivial⟩ rfl ?_)) | (show wpA _ _ _ (.region 6 _ _) _ _ _ _; refine A_fail 2 ?_; simp only [List.take_succ_cons, List.take_zero, List.drop_succ_cons, List.drop_zero]) | refine O_nil ?_ | refine A_seq ?_ | refine A_region ?_ | refine A_block ?_ | (show opsA _ _ _ _ _ _ _; first | refine O_ev WideF.wide rfl (Ev_pure rfl) rfl rfl ?_ | (show opsA _ _ _ _ (⟨_, .load _ _, _, _, _, _⟩ :: _) _ _; first | refine O_ev WideF.wide rfl (Ev_loadB1 (i := 0) rfl rfl rfl) rfl rfl ?_ | refine O_ev WideF.wide rfl (Ev_loadBs (i := 1) rfl rfl rfl rfl) rfl rfl ?_) | (show opsA _ _ _ _ (⟨_, .fieldAddr _ _ _, _, _, _, _⟩ :: _) _ _; refine O_ev WideF.wide rfl (Ev_fieldAddr rfl rfl rfl) rfl rfl ?_) | (show opsA _ _ _ _ (⟨_, .nilCheck _, _, _, _, _⟩ :: _) _ _; refine O_ev WideF.wide rfl (Ev_nilCheck rfl) rfl rfl ?_) | (show opsA _ _ _ _ (⟨_, .alloc _, _, _, _, _⟩ :: _) _ _; (refine O_ef rfl (Ef_alloc WideF.wide rfl ?_); intro b)) | (show opsA _ _ _ _ (⟨_, .store _ _ _, _, _, _, _⟩ :: _) _ _; refine O_ef rfl (Ef_storew WideF.wide rfl rfl rfl rfl rfl ?_))) | (show wpA _ _ _ (.cond _ _ _) _ _ _ _; first | (refine A_if rfl (fun h => ?_) (fun h => ?_) <;> try (exfalso; omega)) | refine A_iftrue rfl ?_))
  all_goals first
    | (exfalso; omega)
    | (exfalso; contradiction)
    | (exfalso; exact absurd trivial (by assumption))
    | (exfalso; exact absurd rfl (by assumption))
    | exact OX_efx rfl (EfX_f2 (EfX_call (I := [_]) WideF.wide (fail_fn' hd) ⟨rfl, rfl, trivial⟩ fun ch H' _ hp => hc _ _ hp rfl))
    | trace_state
set_option maxRecDepth 100000 in
set_option maxHeartbeats 8000000 in
theorem bad_long {s tx : List UInt8} {p : Nat} (hs : s.length ≤ 1000000) {H : Hp} {pb : Nat} (hV : VarsH H) (ht : TokOk s ⟨[105], tx, p⟩) (hl : 40 < tx.length) :
    FnX Tryz.prog 222 [.pointer (some ⟨pb, 0, none⟩)] H [.box pb [sv s, sv [105], sv tx, .int .i64 p]] isFail := by
  have hle := ht.le
  dsimp only at hle
  refine FnX_of _ _ Tryz.func222 rfl Tryz.ntmps222 rfl fun c hc => ?_
  repeat' (first | (refine O_ev WideF.wide rfl (Ev_seqs rfl rfl) rfl rfl ?_) | (refine O_ev WideF.wide rfl (Ev_seqF (by decide) rfl rfl) rfl rfl ?_) | (show wpA _ _ _ (.region 18 _ _) _ _ _ _; refine A_fail 1 ?_; simp only [List.take_succ_cons, List.take_zero, List.drop_succ_cons, List.drop_zero]) | refine O_nil ?_ | refine A_seq ?_ | refine A_region ?_ | refine A_block ?_ | (show opsA _ _ _ _ _ _ _; first | refine O_ev WideF.wide rfl (Ev_pure rfl) rfl rfl ?_ | (show opsA _ _ _ _ (⟨_, .load _ _, _, _, _, _⟩ :: _) _ _; first | refine O_ev WideF.wide rfl (Ev_loadB1 (i := 0) rfl rfl rfl) rfl rfl ?_ | refine O_ev WideF.wide rfl (Ev_loadBs (i := 1) rfl rfl rfl rfl) rfl rfl ?_) | (show opsA _ _ _ _ (⟨_, .fieldAddr _ _ _, _, _, _, _⟩ :: _) _ _; refine O_ev WideF.wide rfl (Ev_fieldAddr rfl rfl rfl) rfl rfl ?_) | (show opsA _ _ _ _ (⟨_, .call _, _, _, _, _⟩ :: _) _ _; refine O_ev WideF.wide rfl (Ev_slen rfl) rfl rfl ?_) | (show opsA _ _ _ _ (⟨_, .nilCheck _, _, _, _, _⟩ :: _) _ _; refine O_ev WideF.wide rfl (Ev_nilCheck rfl) rfl rfl ?_) | (show opsA _ _ _ _ (⟨_, .alloc _, _, _, _, _⟩ :: _) _ _; (refine O_ef rfl (Ef_alloc WideF.wide rfl ?_); intro b)) | (show opsA _ _ _ _ (⟨_, .store _ _ _, _, _, _, _⟩ :: _) _ _; refine O_ef rfl (Ef_storew WideF.wide rfl rfl rfl rfl rfl ?_))) | (show wpA _ _ _ (.cond _ _ _) _ _ _ _; first | (refine A_if rfl (fun h => ?_) (fun h => ?_) <;> try (exfalso; omega)) | refine A_iftrue rfl ?_ | refine A_iffalse rfl ?_))
  all_goals first
    | (exfalso; omega)
    | (exfalso; contradiction)
    | (exfalso; exact absurd trivial (by assumption))
    | (exfalso; exact absurd rfl (by assumption))
    | exact OX_efx rfl (EfX_f2 (EfX_call (I := [_]) WideF.wide (fail_fn' (by decide)) ⟨rfl, rfl, trivial⟩ fun ch H' _ hp => hc _ _ hp rfl))
    | trace_state
set_option maxRecDepth 100000 in
set_option maxHeartbeats 8000000 in
theorem bad_call {s tx : List UInt8} {p : Nat} (hs : s.length ≤ 1000000) {H : Hp} {pb : Nat} (hV : VarsH H) (ht : TokOk s ⟨[105], tx, p⟩) {k : Nat} (har : XA s k) {er : Int} {pp : Nat} (hl : ¬ 40 < tx.length) (hk : (nxt s ⟨[105], tx, p⟩).kind = [40]) (ha : arg s k (nxt s (nxt s ⟨[105], tx, p⟩)) = .err er pp) :
    FnX Tryz.prog 222 [.pointer (some ⟨pb, 0, none⟩)] H [.box pb [sv s, sv [105], sv tx, .int .i64 p]] isFail := by
  have hle := ht.le
  dsimp only at hle
  have kn := fun Hx => next_fn (H := Hx) (b := pb) (by omega) ht
  have ka := fun Hx a (hr : HRow Hx a 1 1 1 [[sv [40]]]) => accept_yes (b := pb) (by omega) ht.nxt hr hk
  have kg := fun Hx (hx : HLe H Hx) => har Hx _ er pp pb (hV.mono hx) ht.nxt.nxt ha
  refine FnX_of _ _ Tryz.func222 rfl Tryz.ntmps222 rfl fun c hc => ?_
  repeat' (first | (refine O_ev WideF.wide rfl (Ev_seqs rfl rfl) rfl rfl ?_) | (refine O_ev WideF.wide rfl (Ev_seqF (by decide) rfl rfl) rfl rfl ?_) | (show opsA _ _ _ _ (⟨some 65, .call _, _, _, _, _⟩ :: _) _ _; refine O_ef rfl (Ef_f2 (Ef_call (I := [_]) WideF.wide (kn _) ⟨rfl, trivial⟩ rfl ?_)); rintro v H2 I2 hle2 ⟨rfl, rfl⟩) | (refine O_ef rfl (Ef_build11 WideF.wide rfl rfl rfl ?_); intro bk; refine O_freeze (ones_of rfl) ?_; intro H1 hk1 hr1) | (show opsA _ _ _ _ (⟨some 69, .call _, _, _, _, _⟩ :: _) _ _; refine O_ef rfl (Ef_call (I := [_]) WideF.wide (ka _ _ hr1) ⟨rfl, rfl, trivial⟩ rfl ?_); rintro v H3 I3 hle3 ⟨rfl, rfl⟩) | refine O_nil ?_ | refine A_seq ?_ | refine A_region ?_ | refine A_skip ?_ | refine A_block ?_ | (show opsA _ _ _ _ _ _ _; first | refine O_ev WideF.wide rfl (Ev_pure rfl) rfl rfl ?_ | (show opsA _ _ _ _ (⟨_, .load _ _, _, _, _, _⟩ :: _) _ _; first | refine O_ev WideF.wide rfl (Ev_loadB1 (i := 0) rfl rfl rfl) rfl rfl ?_ | refine O_ev WideF.wide rfl (Ev_loadBs (i := 1) rfl rfl rfl rfl) rfl rfl ?_) | (show opsA _ _ _ _ (⟨_, .fieldAddr _ _ _, _, _, _, _⟩ :: _) _ _; refine O_ev WideF.wide rfl (Ev_fieldAddr rfl rfl rfl) rfl rfl ?_) | (show opsA _ _ _ _ (⟨_, .call _, _, _, _, _⟩ :: _) _ _; refine O_ev WideF.wide rfl (Ev_slen rfl) rfl rfl ?_) | (show opsA _ _ _ _ (⟨_, .nilCheck _, _, _, _, _⟩ :: _) _ _; refine O_ev WideF.wide rfl (Ev_nilCheck rfl) rfl rfl ?_) | (show opsA _ _ _ _ (⟨_, .alloc _, _, _, _, _⟩ :: _) _ _; (refine O_ef rfl (Ef_alloc WideF.wide rfl ?_); intro b)) | (show opsA _ _ _ _ (⟨_, .store _ _ _, _, _, _, _⟩ :: _) _ _; refine O_ef rfl (Ef_storew WideF.wide rfl rfl rfl rfl rfl ?_))) | (show wpA _ _ _ (.cond _ _ _) _ _ _ _; first | (refine A_if rfl (fun h => ?_) (fun h => ?_) <;> try (exfalso; omega)) | refine A_iftrue rfl ?_ | refine A_iffalse rfl ?_))
  all_goals first
    | (exfalso; omega)
    | (exfalso; contradiction)
    | (exfalso; exact absurd trivial (by assumption))
    | (exfalso; exact absurd rfl (by assumption))
    | (refine A_sub (s' := ⟨93, [(0, .pointer (some ⟨pb, 0, none⟩)), (3, .pointer (some ⟨_, 0, none⟩))], _, [.box pb (pcs s (nxt s (nxt s ⟨[105], tx, p⟩))), .box _ [sv [105], sv tx, .int .i64 p]], [], []⟩) ⟨rfl, rfl, rfl, ⟨rfl, rfl, trivial⟩, Own.subi [0, 1] (by decide) rfl rfl⟩ ?_
       refine A_drawX2 WideF.wide rfl ⟨rfl, rfl⟩ ⟨rfl, rfl⟩ ⟨rfl, rfl⟩ rfl (hb3 rfl) ⟨rfl, rfl⟩ ⟨rfl, rfl⟩ rfl ⟨rfl, rfl, rfl⟩ rfl rfl (fun e he => Ev_fieldAddr (he 3 _ rfl) rfl rfl) (fun e he h1 => Ev_loadB1 (i := 1) h1 rfl rfl) (fun e he => Ev_pure (he 0 _ rfl)) (fun e he hz => EfX_call (I := [_]) WideF.wide (kg _ ((hle2.trans hk1).trans hle3)) ⟨hz, trivial⟩ fun ch H' _ hp => hc _ _ hp rfl))
    | trace_state
set_option maxRecDepth 100000 in
set_option maxHeartbeats 8000000 in
theorem bad_par1 {s tx : List UInt8} {p : Nat} (hs : s.length ≤ 1000000) {H : Hp} {pb : Nat} (hV : VarsH H) (ht : TokOk s ⟨[40], tx, p⟩) {k : Nat} (hor : XC s 42 1 k) {er : Int} {pp : Nat} (ha : prs s k 1 (nxt s ⟨[40], tx, p⟩) = .err er pp) :
    FnX Tryz.prog 222 [.pointer (some ⟨pb, 0, none⟩)] H [.box pb [sv s, sv [40], sv tx, .int .i64 p]] isFail := by
  have hle := ht.le
  dsimp only at hle
  have kn := fun Hx => next_fn (H := Hx) (b := pb) (by omega) ht
  have kr := fun Hx (hx : HLe H Hx) => hor Hx _ er pp pb (hV.mono hx) ht.nxt ha
  refine FnX_of _ _ Tryz.func222 rfl Tryz.ntmps222 rfl fun c hc => ?_
  repeat' (first | (refine O_ev WideF.wide rfl (Ev_seqs rfl rfl) rfl rfl ?_) | (refine O_ev WideF.wide rfl (Ev_seqF (by decide) rfl rfl) rfl rfl ?_) | (show opsA _ _ _ _ (⟨some 84, .call _, _, _, _, _⟩ :: _) _ _; refine O_ef rfl (Ef_f2 (Ef_call (I := [_]) WideF.wide (kn _) ⟨rfl, trivial⟩ rfl ?_)); rintro v H2 I2 hle2 ⟨rfl, rfl⟩) | (show wpA _ _ _ (.region 26 _ _) _ _ _ _; refine A_fail 1 ?_; simp only [List.take_succ_cons, List.take_zero, List.drop_succ_cons, List.drop_zero]) | refine O_nil ?_ | refine A_seq ?_ | refine A_region ?_ | refine A_block ?_ | (show opsA _ _ _ _ _ _ _; first | refine O_ev WideF.wide rfl (Ev_pure rfl) rfl rfl ?_ | (show opsA _ _ _ _ (⟨_, .load _ _, _, _, _, _⟩ :: _) _ _; first | refine O_ev WideF.wide rfl (Ev_loadB1 (i := 0) rfl rfl rfl) rfl rfl ?_ | refine O_ev WideF.wide rfl (Ev_loadBs (i := 1) rfl rfl rfl rfl) rfl rfl ?_) | (show opsA _ _ _ _ (⟨_, .fieldAddr _ _ _, _, _, _, _⟩ :: _) _ _; refine O_ev WideF.wide rfl (Ev_fieldAddr rfl rfl rfl) rfl rfl ?_) | (show opsA _ _ _ _ (⟨_, .nilCheck _, _, _, _, _⟩ :: _) _ _; refine O_ev WideF.wide rfl (Ev_nilCheck rfl) rfl rfl ?_) | (show opsA _ _ _ _ (⟨_, .alloc _, _, _, _, _⟩ :: _) _ _; (refine O_ef rfl (Ef_alloc WideF.wide rfl ?_); intro b)) | (show opsA _ _ _ _ (⟨_, .store _ _ _, _, _, _, _⟩ :: _) _ _; refine O_ef rfl (Ef_storew WideF.wide rfl rfl rfl rfl rfl ?_))) | (show wpA _ _ _ (.cond _ _ _) _ _ _ _; first | refine A_iftrue rfl ?_ | refine A_iffalse rfl ?_))
  all_goals first
    | (exfalso; omega)
    | (exfalso; contradiction)
    | (exfalso; exact absurd trivial (by assumption))
    | (exfalso; exact absurd rfl (by assumption))
    | exact OX_efx rfl (EfX_call (I := [_]) WideF.wide (kr _ hle2) ⟨rfl, trivial⟩ fun ch H' _ hp => hc _ _ hp rfl)
    | trace_state
set_option maxRecDepth 100000 in
set_option maxHeartbeats 8000000 in
theorem bad_par2 {s tx : List UInt8} {p : Nat} (hs : s.length ≤ 1000000) {H : Hp} {pb : Nat} (hV : VarsH H) (ht : TokOk s ⟨[40], tx, p⟩) {k : Nat} (hor : OC s 42 1 k) {n : Nd} {t' : Tok} (ha : prs s k 1 (nxt s ⟨[40], tx, p⟩) = .ok n t') (hk : ¬ t'.kind = [41]) :
    FnX Tryz.prog 222 [.pointer (some ⟨pb, 0, none⟩)] H [.box pb [sv s, sv [40], sv tx, .int .i64 p]] isFail := by
  have hle := ht.le
  dsimp only at hle
  have kn := fun Hx => next_fn (H := Hx) (b := pb) (by omega) ht
  have kr := fun Hx (hx : HLe H Hx) => hor Hx _ n t' pb (hV.mono hx) ht.nxt ha
  refine FnX_of _ _ Tryz.func222 rfl Tryz.ntmps222 rfl fun c hc => ?_
  repeat' (first | (refine O_ev WideF.wide rfl (Ev_seqs rfl rfl) rfl rfl ?_) | (refine O_ev WideF.wide rfl (Ev_seqF (by decide) rfl rfl) rfl rfl ?_) | (show opsA _ _ _ _ (⟨some 84, .call _, _, _, _, _⟩ :: _) _ _; refine O_ef rfl (Ef_f2 (Ef_call (I := [_]) WideF.wide (kn _) ⟨rfl, trivial⟩ rfl ?_)); rintro v H2 I2 hle2 ⟨rfl, rfl⟩) | (show opsA _ _ _ _ (⟨some 86, .call _, _, _, _, _⟩ :: _) _ _; refine O_ef rfl (Ef_call (I := [_]) WideF.wide (kr _ hle2) ⟨rfl, trivial⟩ rfl ?_); rintro v H3 I3 hle3 ⟨⟨a3, n3, c3, rfl, hn3⟩, rfl, hok3⟩) | (show wpA _ _ _ (.region 27 _ _) _ _ _ _; refine A_fail 1 ?_; simp only [List.take_succ_cons, List.take_zero, List.drop_succ_cons, List.drop_zero]) | refine O_nil ?_ | refine A_seq ?_ | refine A_region ?_ | refine A_block ?_ | (show opsA _ _ _ _ _ _ _; first | refine O_ev WideF.wide rfl (Ev_pure rfl) rfl rfl ?_ | (show opsA _ _ _ _ (⟨_, .load _ _, _, _, _, _⟩ :: _) _ _; first | refine O_ev WideF.wide rfl (Ev_loadB1 (i := 0) rfl rfl rfl) rfl rfl ?_ | refine O_ev WideF.wide rfl (Ev_loadBs (i := 1) rfl rfl rfl rfl) rfl rfl ?_) | (show opsA _ _ _ _ (⟨_, .fieldAddr _ _ _, _, _, _, _⟩ :: _) _ _; refine O_ev WideF.wide rfl (Ev_fieldAddr rfl rfl rfl) rfl rfl ?_) | (show opsA _ _ _ _ (⟨_, .nilCheck _, _, _, _, _⟩ :: _) _ _; refine O_ev WideF.wide rfl (Ev_nilCheck rfl) rfl rfl ?_) | (show opsA _ _ _ _ (⟨_, .alloc _, _, _, _, _⟩ :: _) _ _; (refine O_ef rfl (Ef_alloc WideF.wide rfl ?_); intro b)) | (show opsA _ _ _ _ (⟨_, .store _ _ _, _, _, _, _⟩ :: _) _ _; refine O_ef rfl (Ef_storew WideF.wide rfl rfl rfl rfl rfl ?_))) | (show wpA _ _ _ (.cond _ _ _) _ _ _ _; first | refine A_iftrue rfl ?_ | refine A_iffalse rfl ?_))
  all_goals first
    | (exfalso; omega)
    | (exfalso; contradiction)
    | (exfalso; exact absurd trivial (by assumption))
    | (exfalso; exact absurd rfl (by assumption))
    | exact OX_efx rfl (EfX_f1 (EfX_call (I := [_]) WideF.wide (expect_no' hk) ⟨rfl, rfl, trivial⟩ fun ch H' _ hp => hc _ _ hp rfl))
    | trace_state
set_option maxRecDepth 100000 in
set_option maxHeartbeats 8000000 in
theorem bad_else {s tx kd : List UInt8} {p : Nat} (hs : s.length ≤ 1000000) {H : Hp} {pb : Nat} (hV : VarsH H) (ht : TokOk s ⟨kd, tx, p⟩) (k1 : ¬ kd = [110]) (k2 : ¬ kd = [115]) (k3 : ¬ kd = [116, 114, 117, 101]) (k4 : ¬ kd = [102, 97, 108, 115, 101]) (k5 : ¬ kd = [105]) (k6 : ¬ kd = [40]) :
    FnX Tryz.prog 222 [.pointer (some ⟨pb, 0, none⟩)] H [.box pb [sv s, sv kd, sv tx, .int .i64 p]] isFail := by
  have hle := ht.le
  dsimp only at hle
  refine FnX_of _ _ Tryz.func222 rfl Tryz.ntmps222 rfl fun c hc => ?_
  repeat' (first | (refine O_ev WideF.wide rfl (Ev_seqF k1 rfl rfl) rfl rfl ?_) | (refine O_ev WideF.wide rfl (Ev_seqF k2 rfl rfl) rfl rfl ?_) | (refine O_ev WideF.wide rfl (Ev_seqF k3 rfl rfl) rfl rfl ?_) | (refine O_ev WideF.wide rfl (Ev_seqF k4 rfl rfl) rfl rfl ?_) | (refine O_ev WideF.wide rfl (Ev_seqF k5 rfl rfl) rfl rfl ?_) | (refine O_ev WideF.wide rfl (Ev_seqF k6 rfl rfl) rfl rfl ?_) | (show wpA _ _ _ (.region 29 _ _) _ _ _ _; refine A_fail 1 ?_; simp only [List.take_succ_cons, List.take_zero, List.drop_succ_cons, List.drop_zero]) | refine O_nil ?_ | refine A_seq ?_ | refine A_region ?_ | refine A_skip ?_ | refine A_block ?_ | (show opsA _ _ _ _ _ _ _; first | refine O_ev WideF.wide rfl (Ev_pure rfl) rfl rfl ?_ | (show opsA _ _ _ _ (⟨_, .load _ _, _, _, _, _⟩ :: _) _ _; first | refine O_ev WideF.wide rfl (Ev_loadB1 (i := 0) rfl rfl rfl) rfl rfl ?_ | refine O_ev WideF.wide rfl (Ev_loadBs (i := 1) rfl rfl rfl rfl) rfl rfl ?_) | (show opsA _ _ _ _ (⟨_, .fieldAddr _ _ _, _, _, _, _⟩ :: _) _ _; refine O_ev WideF.wide rfl (Ev_fieldAddr rfl rfl rfl) rfl rfl ?_) | (show opsA _ _ _ _ (⟨_, .nilCheck _, _, _, _, _⟩ :: _) _ _; refine O_ev WideF.wide rfl (Ev_nilCheck rfl) rfl rfl ?_) | (show opsA _ _ _ _ (⟨_, .alloc _, _, _, _, _⟩ :: _) _ _; (refine O_ef rfl (Ef_alloc WideF.wide rfl ?_); intro b)) | (show opsA _ _ _ _ (⟨_, .store _ _ _, _, _, _, _⟩ :: _) _ _; refine O_ef rfl (Ef_storew WideF.wide rfl rfl rfl rfl rfl ?_))) | (show wpA _ _ _ (.cond _ _ _) _ _ _ _; refine A_iffalse rfl ?_))
  all_goals first
    | (exfalso; omega)
    | (exfalso; contradiction)
    | (exfalso; exact absurd trivial (by assumption))
    | (exfalso; exact absurd rfl (by assumption))
    | exact OX_efx rfl (EfX_f2 (EfX_call (I := [_]) WideF.wide (fail_fn' (by decide)) ⟨rfl, rfl, trivial⟩ fun ch H' _ hp => hc _ _ hp rfl))
    | trace_state
theorem primary_bad {s : List UInt8} (hs : s.length ≤ 1000000) {k : Nat} (har : XA s k) (hor : OC s 42 1 k) (hbad : XC s 42 1 k) : XC s 222 8 (k + 1) := by
  intro H t er pp pb hV ht h
  obtain ⟨kd, tx, p⟩ := t
  rw [prs_prim] at h
  dsimp only at h
  by_cases k1 : kd = [110]
  · subst k1
    rw [if_pos rfl] at h
    by_cases hd : (digR tx).2 = 0
    · rw [if_pos hd] at h; cases h
    · exact bad_num hs hV ht hd
  rw [if_neg k1] at h
  by_cases k2 : kd = [115]
  · subst k2; rw [if_pos rfl] at h; cases h
  rw [if_neg k2] at h
  by_cases k3 : kd = [116, 114, 117, 101]
  · subst k3; rw [if_pos rfl] at h; cases h
  rw [if_neg k3] at h
  by_cases k4 : kd = [102, 97, 108, 115, 101]
  · subst k4; rw [if_pos rfl] at h; cases h
  rw [if_neg k4] at h
  by_cases k5 : kd = [105]
  · subst k5
    rw [if_pos rfl] at h
    by_cases hl : 40 < tx.length
    · exact bad_long hs hV ht hl
    rw [if_neg hl] at h
    by_cases hk : (nxt s ⟨[105], tx, p⟩).kind = [40]
    · rw [if_pos hk] at h
      cases ha : arg s k (nxt s (nxt s ⟨[105], tx, p⟩)) with
      | no => rw [ha] at h; cases h
      | ok l t2 => rw [ha] at h; cases h
      | err e q => exact bad_call hs hV ht har hl hk ha
    · rw [if_neg hk] at h; cases h
  rw [if_neg k5] at h
  by_cases k6 : kd = [40]
  · subst k6
    rw [if_pos rfl] at h
    cases ha : prs s k 1 (nxt s ⟨[40], tx, p⟩) with
    | no => rw [ha] at h; cases h
    | err e q => exact bad_par1 hs hV ht hbad ha
    | ok n t2 =>
      rw [ha] at h
      dsimp only at h
      by_cases hk : t2.kind = [41]
      · rw [if_pos hk] at h; cases h
      · exact bad_par2 hs hV ht hor ha hk
  · exact bad_else hs hV ht k1 k2 k3 k4 k5 k6
structure AllX (s : List UInt8) (k : Nat) : Prop where
  or : XC s 42 1 k
  and : XC s 83 2 k
  not : XC s 132 3 k
  rel : XC s 153 4 k
  sum : XC s 181 5 k
  pro : XC s 205 6 k
  fac : XC s 217 7 k
  pri : XC s 222 8 k
  arg : XA s k
theorem xc_zero {s : List UInt8} {f : FuncId} {lv : Nat} : XC s f lv 0 := fun H t e p b _ _ h => by rw [prs_zero] at h; cases h
theorem parser_bad {s : List UInt8} (hs : s.length ≤ 1000000) : ∀ k, k ≤ 1000000 → AllX s k := by
  intro k
  induction k using Nat.strongRecOn with
  | _ k ih =>
    intro hk
    cases k with
    | zero => exact ⟨xc_zero, xc_zero, xc_zero, xc_zero, xc_zero, xc_zero, xc_zero, xc_zero, fun H t e p b _ _ h => by rw [arg_zero] at h; cases h⟩
    | succ k =>
      have hs' : s.length < 4611686018427387904 := by omega
      have hj : ∀ j, j ≤ k → AllX s j := fun j hj => ih j (by omega) (by omega)
      have hg : ∀ j, j ≤ k → AllC s j := fun j hj => parser_all hs j (by omega)
      have h0 := hj k (Nat.le_refl _)
      have g0 := hg k (Nat.le_refl _)
      exact ⟨or_bad hs' (fun j h => (hg j h).and) fun j h => (hj j h).and, and_bad hs' (fun j h => (hg j h).not) fun j h => (hj j h).not, not_badX hs' h0.not h0.rel, relation_bad hs' g0.sum h0.sum, sum_bad hs' (fun j h => (hg j h).pro) fun j h => (hj j h).pro, product_bad hs' (fun j h => (hg j h).fac) fun j h => (hj j h).fac,
        factor_bad hs' h0.fac h0.pri, primary_bad hs h0.arg g0.or h0.or, args_bad hs' (by omega) (fun j h => (hg j h).or) fun j h => (hj j h).or⟩
end Go.Proofs.YtnoadopmeoohmaaGreatDoor
/-
  The fuel is enough: the parser as data never gives up (plain Lean).
-/
namespace Go.Proofs.YtnoadopmeoohmaaGreatDoor
open Go
set_option linter.unusedVariables false
set_option linter.unusedSimpArgs false
/-- a token of the text: it is within the text, and only the end and a fault are empty -/
structure Tk (s : List UInt8) (t : Tok) : Prop where
  ok : TokOk s t
  ne : t.text = [] → t.kind = [46] ∨ t.kind = [33]
theorem tw_ne {pr : UInt8 → Bool} {c : UInt8} {r : List UInt8} (h : pr c = true) : (c :: r).takeWhile pr ≠ [] := by
  rw [List.takeWhile_cons, if_pos h]; simp
theorem tokAt_ne {s : List UInt8} {q : Nat} : (tokAt s q).text = [] → (tokAt s q).kind = [46] ∨ (tokAt s q).kind = [33] := by
  unfold tokAt
  split
  · intro _; exact .inl rfl
  · rename_i c r _
    by_cases h1 : isDg c = true
    · rw [if_pos h1]
      split <;> intro h <;> exact absurd h (tw_ne h1)
    rw [if_neg h1]
    by_cases h2 : isLt c = true
    · rw [if_pos h2]
      have h3 : isWd c = true := by unfold isWd; rw [h2]; rfl
      split <;> intro h <;> exact absurd h (tw_ne h3)
    rw [if_neg h2]
    by_cases h3 : c = 34
    · rw [if_pos h3]
      cases qlen r with
      | none => intro h; exact absurd h (by simp)
      | some n =>
        dsimp only
        split <;> intro h <;> exact absurd h (by simp)
    rw [if_neg h3]
    cases ho : fops (c :: r) with
    | none => intro _; exact .inr rfl
    | some o =>
      have ho' : opsL.find? (fun o : List UInt8 => o.isPrefixOf (c :: r)) = some o := ho
      have hm := List.mem_of_find?_eq_some ho'
      have hne : ∀ o ∈ opsL, o ≠ [] := by decide
      intro h
      exact absurd h (hne o hm)
theorem Tk.scn {s : List UInt8} {p : Nat} (hp : p ≤ s.length) : Tk s (scn s p) := ⟨scn_ok hp, tokAt_ne⟩
theorem Tk.nxt {s : List UInt8} {t : Tok} (h : Tk s t) : Tk s (nxt s t) := Tk.scn h.ok.le
theorem tokAt_pos {s : List UInt8} {q : Nat} : (tokAt s q).pos = q := by
  unfold tokAt
  split
  · rfl
  · split
    · split <;> rfl
    · split
      · split <;> rfl
      · split
        · split
          · rfl
          · split <;> rfl
        · split <;> rfl
theorem Tk.step {s : List UInt8} {t : Tok} (h : Tk s t) (h1 : ¬ t.kind = [46]) (h2 : ¬ t.kind = [33]) : t.pos + 1 ≤ s.length ∧ t.pos + 1 ≤ (Go.Proofs.YtnoadopmeoohmaaGreatDoor.nxt s t).pos := by
  have hne : t.text ≠ [] := fun he => (h.ne he).elim h1 h2
  have hl : 0 < t.text.length := List.length_pos_iff.2 hne
  have := h.ok.le
  have h3 : (Go.Proofs.YtnoadopmeoohmaaGreatDoor.nxt s t).pos = t.pos + t.text.length + ((s.drop (t.pos + t.text.length)).takeWhile isSp).length := by
    show (tokAt s _).pos = _
    rw [tokAt_pos]
  omega
theorem opAt_kind {lv : Nat} {k : List UInt8} {op : Int} (h : opAt lv k = some op) : ¬ k = [46] ∧ ¬ k = [33] := by
  constructor
  all_goals
    rintro rfl
    unfold opAt at h
    split at h <;> simp at h
/-- what parsing gives has gone on, and is no surrender -/
def goodR (s : List UInt8) (p : Nat) : PR → Prop
  | .no => False
  | .err _ _ => True
  | .ok _ t => Tk s t ∧ p ≤ t.pos
def goodL (s : List UInt8) (p : Nat) : PL → Prop
  | .no => False
  | .err _ _ => True
  | .ok _ t => Tk s t ∧ p ≤ t.pos
theorem goodR.le {s : List UInt8} {p q : Nat} {r : PR} (h : goodR s p r) (hq : q ≤ p) : goodR s q r := by
  cases r with
  | no => exact h
  | err => trivial
  | ok n t => exact ⟨h.1, Nat.le_trans hq h.2⟩
theorem goodL.le {s : List UInt8} {p q : Nat} {r : PL} (h : goodL s p r) (hq : q ≤ p) : goodL s q r := by
  cases r with
  | no => exact h
  | err => trivial
  | ok n t => exact ⟨h.1, Nat.le_trans hq h.2⟩
structure Fuel (s : List UInt8) (k : Nat) : Prop where
  prs : ∀ lv t, 1 ≤ lv → lv ≤ 8 → Tk s t → 10 * (s.length - t.pos) + (10 - lv) ≤ k → goodR s t.pos (prs s k lv t)
  lop : ∀ lv n t, 1 ≤ lv → lv ≤ 7 → Tk s t → 10 * (s.length - t.pos) + 1 ≤ k → goodR s t.pos (lop s k lv n t)
  arg : ∀ t, Tk s t → 10 * (s.length - t.pos) + 10 ≤ k → goodL s t.pos (arg s k t)
  agl : ∀ l t, Tk s t → 10 * (s.length - t.pos) + 1 ≤ k → goodL s t.pos (agl s k l t)
theorem fuel_all {s : List UInt8} : ∀ k, Fuel s k := by
  intro k
  induction k with
  | zero => exact ⟨fun lv t _ _ _ h => by omega, fun lv n t _ _ _ h => by omega, fun t _ h => by omega, fun l t _ h => by omega⟩
  | succ k ih =>
    have chain : ∀ lv t, 1 ≤ lv → lv ≤ 7 → Tk s t → 10 * (s.length - t.pos) + (10 - lv) ≤ k + 1 → goodR s t.pos (match Go.Proofs.YtnoadopmeoohmaaGreatDoor.prs s k (lv + 1) t with | .ok n t' => Go.Proofs.YtnoadopmeoohmaaGreatDoor.lop s k lv n t' | r => r) := by
      intro lv t h1 h2 ht hk
      have g := ih.prs (lv + 1) t (by omega) (by omega) ht (by omega)
      cases hp : Go.Proofs.YtnoadopmeoohmaaGreatDoor.prs s k (lv + 1) t with
      | no => rw [hp] at g; exact g
      | err => trivial
      | ok n t' =>
        rw [hp] at g
        exact (ih.lop lv n t' h1 h2 g.1 (by have := g.2; omega)).le g.2
    refine ⟨?_, ?_, ?_, ?_⟩
    · intro lv t h1 h2 ht hk
      match lv, h1, h2, hk with
      | 1, h1, h2, hk => rw [prs_or]; exact chain 1 t h1 (by omega) ht hk
      | 2, h1, h2, hk => rw [prs_and]; exact chain 2 t h1 (by omega) ht hk
      | 3, h1, h2, hk =>
        rw [prs_not]
        split
        · rename_i hkd
          have hst := ht.step (by rw [hkd]; decide) (by rw [hkd]; decide)
          have g := ih.prs 3 (nxt s t) (by omega) (by omega) ht.nxt (by omega)
          cases hp : Go.Proofs.YtnoadopmeoohmaaGreatDoor.prs s k 3 (nxt s t) with
          | no => rw [hp] at g; exact g
          | err => trivial
          | ok n t' => rw [hp] at g; exact ⟨g.1, by have := g.2; omega⟩
        · exact ih.prs 4 t (by omega) (by omega) ht (by omega)
      | 4, h1, h2, hk =>
        rw [prs_rel]
        have g := ih.prs 5 t (by omega) (by omega) ht (by omega)
        cases hp : Go.Proofs.YtnoadopmeoohmaaGreatDoor.prs s k 5 t with
        | no => rw [hp] at g; exact g
        | err => trivial
        | ok n t' =>
          rw [hp] at g
          dsimp only
          cases ho : opAt 4 t'.kind with
          | none => exact g
          | some op =>
            dsimp only
            have hkd := opAt_kind ho
            have hst := g.1.step hkd.1 hkd.2
            have hle := g.2
            have g2 := ih.prs 5 (nxt s t') (by omega) (by omega) g.1.nxt (by omega)
            cases hp2 : Go.Proofs.YtnoadopmeoohmaaGreatDoor.prs s k 5 (nxt s t') with
            | no => rw [hp2] at g2; exact g2
            | err => trivial
            | ok n2 t2 => rw [hp2] at g2; exact ⟨g2.1, by have := g2.2; omega⟩
      | 5, h1, h2, hk => rw [prs_sum]; exact chain 5 t h1 (by omega) ht hk
      | 6, h1, h2, hk => rw [prs_product]; exact chain 6 t h1 (by omega) ht hk
      | 7, h1, h2, hk =>
        rw [prs_fac]
        split
        · rename_i hkd
          have hst := ht.step (by rw [hkd]; decide) (by rw [hkd]; decide)
          have g := ih.prs 7 (nxt s t) (by omega) (by omega) ht.nxt (by omega)
          cases hp : Go.Proofs.YtnoadopmeoohmaaGreatDoor.prs s k 7 (nxt s t) with
          | no => rw [hp] at g; exact g
          | err => trivial
          | ok n t' => rw [hp] at g; exact ⟨g.1, by have := g.2; omega⟩
        · exact ih.prs 8 t (by omega) (by omega) ht (by omega)
      | 8, h1, h2, hk =>
        rw [prs_prim]
        split
        · rename_i hkd
          have hst := ht.step (by rw [hkd]; decide) (by rw [hkd]; decide)
          split
          · exact ⟨ht.nxt, by omega⟩
          · trivial
        split
        · rename_i hkd
          have hst := ht.step (by rw [hkd]; decide) (by rw [hkd]; decide)
          exact ⟨ht.nxt, by omega⟩
        split
        · rename_i hkd
          have hst := ht.step (by rw [hkd]; decide) (by rw [hkd]; decide)
          exact ⟨ht.nxt, by omega⟩
        split
        · rename_i hkd
          have hst := ht.step (by rw [hkd]; decide) (by rw [hkd]; decide)
          exact ⟨ht.nxt, by omega⟩
        split
        · rename_i hkd
          have hst := ht.step (by rw [hkd]; decide) (by rw [hkd]; decide)
          split
          · trivial
          split
          · rename_i hk2
            have hst2 := ht.nxt.step (by rw [hk2]; decide) (by rw [hk2]; decide)
            have g := ih.arg (nxt s (nxt s t)) ht.nxt.nxt (by omega)
            cases hp : Go.Proofs.YtnoadopmeoohmaaGreatDoor.arg s k (nxt s (nxt s t)) with
            | no => rw [hp] at g; exact g
            | err => trivial
            | ok l t' => rw [hp] at g; exact ⟨g.1, by have := g.2; omega⟩
          · exact ⟨ht.nxt, by omega⟩
        split
        · rename_i hkd
          have hst := ht.step (by rw [hkd]; decide) (by rw [hkd]; decide)
          have g := ih.prs 1 (nxt s t) (by omega) (by omega) ht.nxt (by omega)
          cases hp : Go.Proofs.YtnoadopmeoohmaaGreatDoor.prs s k 1 (nxt s t) with
          | no => rw [hp] at g; exact g
          | err => trivial
          | ok n t' =>
            rw [hp] at g
            dsimp only
            split
            · rename_i hk2
              have hst2 := g.1.step (by rw [hk2]; decide) (by rw [hk2]; decide)
              exact ⟨g.1.nxt, by have := g.2; omega⟩
            · trivial
        · trivial
    · intro lv n t h1 h2 ht hk
      rw [lop_succ]
      cases ho : opAt lv t.kind with
      | none => exact ⟨ht, Nat.le_refl _⟩
      | some op =>
        dsimp only
        have hkd := opAt_kind ho
        have hst := ht.step hkd.1 hkd.2
        have g := ih.prs (lv + 1) (nxt s t) (by omega) (by omega) ht.nxt (by omega)
        cases hp : Go.Proofs.YtnoadopmeoohmaaGreatDoor.prs s k (lv + 1) (nxt s t) with
        | no => rw [hp] at g; exact g
        | err => trivial
        | ok m t' =>
          rw [hp] at g
          exact (ih.lop lv _ t' h1 h2 g.1 (by have := g.2; omega)).le (by have := g.2; omega)
    · intro t ht hk
      rw [arg_succ]
      split
      · rename_i hkd
        have hst := ht.step (by rw [hkd]; decide) (by rw [hkd]; decide)
        exact ⟨ht.nxt, by omega⟩
      · have g := ih.prs 1 t (by omega) (by omega) ht (by omega)
        cases hp : Go.Proofs.YtnoadopmeoohmaaGreatDoor.prs s k 1 t with
        | no => rw [hp] at g; exact g
        | err => trivial
        | ok n t' =>
          rw [hp] at g
          exact (ih.agl _ t' g.1 (by have := g.2; omega)).le g.2
    · intro l t ht hk
      rw [agl_succ]
      split
      · rename_i hkd
        have hst := ht.step (by rw [hkd]; decide) (by rw [hkd]; decide)
        have g := ih.prs 1 (nxt s t) (by omega) (by omega) ht.nxt (by omega)
        cases hp : Go.Proofs.YtnoadopmeoohmaaGreatDoor.prs s k 1 (nxt s t) with
        | no => rw [hp] at g; exact g
        | err => trivial
        | ok n t' =>
          rw [hp] at g
          exact (ih.agl _ t' g.1 (by have := g.2; omega)).le (by have := g.2; omega)
      · split
        · rename_i hkd
          have hst := ht.step (by rw [hkd]; decide) (by rw [hkd]; decide)
          exact ⟨ht.nxt, by omega⟩
        · trivial
theorem prs_fuel {s : List UInt8} {k : Nat} (hl : s.length ≤ 1024) (hk : 20000 ≤ k) : goodR s (scn s 0).pos (prs s k 1 (scn s 0)) :=
  (fuel_all k).prs 1 _ (by omega) (by omega) (Tk.scn (by omega)) (by omega)
end Go.Proofs.YtnoadopmeoohmaaGreatDoor
