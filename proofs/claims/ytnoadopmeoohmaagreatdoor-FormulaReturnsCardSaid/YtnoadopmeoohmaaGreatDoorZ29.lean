import Derived.Test.YtnoadopmeoohmaaGreatDoorZ17
/-
  The parser's levels: or, and, sum, product, relation, not, factor. Printed by genF14.py.
-/
namespace Go.Proofs.YtnoadopmeoohmaaGreatDoor
open Go
set_option linter.unusedVariables false
set_option linter.unusedSimpArgs false
theorem or_ops : OpsOf 1 (sput [] [111, 114] (.int .i64 6)) := by
  intro x
  by_cases h0 : x = [111, 114]
  · subst h0
    refine .inr ⟨6, by decide, ?_, ?_⟩
    · simp only [shas_put]; simp
    · simp only [sget_put]; simp
  refine .inl ⟨?_, ?_⟩
  · simp only [opAt, h0, if_false]
  · simp only [shas_put]; simp [shas_nil, h0]
theorem and_ops : OpsOf 2 (sput [] [97, 110, 100] (.int .i64 7)) := by
  intro x
  by_cases h0 : x = [97, 110, 100]
  · subst h0
    refine .inr ⟨7, by decide, ?_, ?_⟩
    · simp only [shas_put]; simp
    · simp only [sget_put]; simp
  refine .inl ⟨?_, ?_⟩
  · simp only [opAt, h0, if_false]
  · simp only [shas_put]; simp [shas_nil, h0]
theorem sum_ops : OpsOf 5 (sput (sput (sput [] [43] (.int .i64 15)) [45] (.int .i64 16)) [38] (.int .i64 17)) := by
  intro x
  by_cases h0 : x = [43]
  · subst h0
    refine .inr ⟨15, by decide, ?_, ?_⟩
    · simp only [shas_put]; simp
    · simp only [sget_put]; simp
  by_cases h1 : x = [45]
  · subst h1
    refine .inr ⟨16, by decide, ?_, ?_⟩
    · simp only [shas_put]; simp
    · simp only [sget_put]; simp
  by_cases h2 : x = [38]
  · subst h2
    refine .inr ⟨17, by decide, ?_, ?_⟩
    · simp only [shas_put]; simp
    · simp only [sget_put]; simp
  refine .inl ⟨?_, ?_⟩
  · simp only [opAt, h0, h1, h2, if_false]
  · simp only [shas_put]; simp [shas_nil, h0, h1, h2]
theorem product_ops : OpsOf 6 (sput (sput (sput [] [42] (.int .i64 18)) [47] (.int .i64 19)) [37] (.int .i64 20)) := by
  intro x
  by_cases h0 : x = [42]
  · subst h0
    refine .inr ⟨18, by decide, ?_, ?_⟩
    · simp only [shas_put]; simp
    · simp only [sget_put]; simp
  by_cases h1 : x = [47]
  · subst h1
    refine .inr ⟨19, by decide, ?_, ?_⟩
    · simp only [shas_put]; simp
    · simp only [sget_put]; simp
  by_cases h2 : x = [37]
  · subst h2
    refine .inr ⟨20, by decide, ?_, ?_⟩
    · simp only [shas_put]; simp
    · simp only [sget_put]; simp
  refine .inl ⟨?_, ?_⟩
  · simp only [opAt, h0, h1, h2, if_false]
  · simp only [shas_put]; simp [shas_nil, h0, h1, h2]
theorem rel_ops : OpsOf 4 (sput (sput (sput (sput (sput (sput [] [61] (.int .i64 9)) [60, 62] (.int .i64 10)) [60] (.int .i64 11)) [60, 61] (.int .i64 12)) [62] (.int .i64 13)) [62, 61] (.int .i64 14)) := by
  intro x
  by_cases h0 : x = [61]
  · subst h0
    refine .inr ⟨9, by decide, ?_, ?_⟩
    · simp only [shas_put]; simp
    · simp only [sget_put]; simp
  by_cases h1 : x = [60, 62]
  · subst h1
    refine .inr ⟨10, by decide, ?_, ?_⟩
    · simp only [shas_put]; simp
    · simp only [sget_put]; simp
  by_cases h2 : x = [60]
  · subst h2
    refine .inr ⟨11, by decide, ?_, ?_⟩
    · simp only [shas_put]; simp
    · simp only [sget_put]; simp
  by_cases h3 : x = [60, 61]
  · subst h3
    refine .inr ⟨12, by decide, ?_, ?_⟩
    · simp only [shas_put]; simp
    · simp only [sget_put]; simp
  by_cases h4 : x = [62]
  · subst h4
    refine .inr ⟨13, by decide, ?_, ?_⟩
    · simp only [shas_put]; simp
    · simp only [sget_put]; simp
  by_cases h5 : x = [62, 61]
  · subst h5
    refine .inr ⟨14, by decide, ?_, ?_⟩
    · simp only [shas_put]; simp
    · simp only [sget_put]; simp
  refine .inl ⟨?_, ?_⟩
  · simp only [opAt, h0, h1, h2, h3, h4, h5, if_false]
  · simp only [shas_put]; simp [shas_nil, h0, h1, h2, h3, h4, h5]
theorem prs_or {s : List UInt8} {k : Nat} {t : Tok} : prs s (k + 1) 1 t = (match prs s k 2 t with | .ok n t' => lop s k 1 n t' | r => r) := by rw [prs]; rfl
theorem prs_and {s : List UInt8} {k : Nat} {t : Tok} : prs s (k + 1) 2 t = (match prs s k 3 t with | .ok n t' => lop s k 2 n t' | r => r) := by rw [prs]; rfl
theorem prs_sum {s : List UInt8} {k : Nat} {t : Tok} : prs s (k + 1) 5 t = (match prs s k 6 t with | .ok n t' => lop s k 5 n t' | r => r) := by rw [prs]; rfl
theorem prs_product {s : List UInt8} {k : Nat} {t : Tok} : prs s (k + 1) 6 t = (match prs s k 7 t with | .ok n t' => lop s k 6 n t' | r => r) := by rw [prs]; rfl
theorem prs_not {s : List UInt8} {k : Nat} {t : Tok} : prs s (k + 1) 3 t = (if t.kind = [110, 111, 116] then (match prs s k 3 (nxt s t) with | .ok n t' => .ok (.mk 8 0 [] [n]) t' | r => r) else prs s k 4 t) := by rw [prs]; rfl
theorem prs_rel {s : List UInt8} {k : Nat} {t : Tok} : prs s (k + 1) 4 t = (match prs s k 5 t with
      | .ok n t' => (match opAt 4 t'.kind with | none => .ok n t' | some op => match prs s k 5 (nxt s t') with | .ok m t2 => .ok (.mk op 0 [] [n, m]) t2 | r => r)
      | r => r) := by rw [prs]; rfl
theorem prs_fac {s : List UInt8} {k : Nat} {t : Tok} : prs s (k + 1) 7 t = (if t.kind = [45] then (match prs s k 7 (nxt s t) with | .ok n t' => .ok (.mk 21 0 [] [n]) t' | r => r) else prs s k 8 t) := by rw [prs]; rfl
attribute [local irreducible] wpA opsA drJ drQ drE Ef Ev Shift Fn
set_option maxRecDepth 100000 in
set_option maxHeartbeats 4000000 in
theorem or_fn {s : List UInt8} (hs : s.length < 4611686018427387904) {k : Nat} (hop : ∀ j, j ≤ k → OC s 83 2 j) : OC s 42 1 (k + 1) := by
  intro H t nd t' pb hV ht h
  rw [prs_or] at h
  cases h1 : prs s k 2 t with
  | no => rw [h1] at h; cases h
  | err e p => rw [h1] at h; cases h
  | ok n t1 =>
    rw [h1] at h
    dsimp only at h
    have kc := fun mb => chain_fn hs or_ops hop (pb := pb) (mb := mb) hV ht h1 h
    refine Fn_of _ _ Tryz.func42 rfl Tryz.ntmps42 rfl fun c => ?_
    repeat' (first | (refine O_ev WideF.wide rfl (Ev_makeFunc (xs := [_]) (ys := []) (vs := [_]) (us := []) rfl rfl) rfl rfl ?_) | (refine O_ef rfl (Ef_makeMapT WideF.wide rfl ?_); intro mb) | (refine O_ef rfl (Ef_mapInsT WideF.wide rfl rfl rfl ?_)) | (refine O_ef rfl (Ef_pick [2, 0] (by decide) rfl rfl (Ef_call (I := [_, _]) WideF.wide (kc _) ⟨rfl, rfl, rfl, trivial⟩ rfl ?_)); rintro v H3 I3 hle3 ⟨⟨a3, n3, c3, rfl, hn3⟩, rfl, hok3⟩) | refine O_nil ?_ | refine A_seq ?_ | refine A_region ?_ | refine A_ret ?_ | (show opsA _ _ _ _ _ _ _; first | refine O_ev WideF.wide rfl (Ev_pure rfl) rfl rfl ?_ | (show opsA _ _ _ _ (⟨_, .alloc _, _, _, _, _⟩ :: _) _ _; (refine O_ef rfl (Ef_alloc WideF.wide rfl ?_); intro b)) | (show opsA _ _ _ _ (⟨_, .store _ _ _, _, _, _, _⟩ :: _) _ _; refine O_f1 (O_ef rfl (Ef_storew WideF.wide rfl rfl rfl rfl rfl ?_)))))
    all_goals first
        | exact End_s (RetC rfl rfl (i := 0) rfl rfl) (Shift.to (s' := ⟨_, [], _, [.box pb (pcs s t')], [], []⟩) ⟨rfl, ⟨_, _, _, rfl, hn3⟩, rfl, hok3⟩ ⟨rfl, rfl, rfl, trivial, Own.subi [1] (by decide) rfl rfl⟩)
        | trace_state
set_option maxRecDepth 100000 in
set_option maxHeartbeats 4000000 in
theorem and_fn {s : List UInt8} (hs : s.length < 4611686018427387904) {k : Nat} (hop : ∀ j, j ≤ k → OC s 132 3 j) : OC s 83 2 (k + 1) := by
  intro H t nd t' pb hV ht h
  rw [prs_and] at h
  cases h1 : prs s k 3 t with
  | no => rw [h1] at h; cases h
  | err e p => rw [h1] at h; cases h
  | ok n t1 =>
    rw [h1] at h
    dsimp only at h
    have kc := fun mb => chain_fn hs and_ops hop (pb := pb) (mb := mb) hV ht h1 h
    refine Fn_of _ _ Tryz.func83 rfl Tryz.ntmps83 rfl fun c => ?_
    repeat' (first | (refine O_ev WideF.wide rfl (Ev_makeFunc (xs := [_]) (ys := []) (vs := [_]) (us := []) rfl rfl) rfl rfl ?_) | (refine O_ef rfl (Ef_makeMapT WideF.wide rfl ?_); intro mb) | (refine O_ef rfl (Ef_mapInsT WideF.wide rfl rfl rfl ?_)) | (refine O_ef rfl (Ef_pick [2, 0] (by decide) rfl rfl (Ef_call (I := [_, _]) WideF.wide (kc _) ⟨rfl, rfl, rfl, trivial⟩ rfl ?_)); rintro v H3 I3 hle3 ⟨⟨a3, n3, c3, rfl, hn3⟩, rfl, hok3⟩) | refine O_nil ?_ | refine A_seq ?_ | refine A_region ?_ | refine A_ret ?_ | (show opsA _ _ _ _ _ _ _; first | refine O_ev WideF.wide rfl (Ev_pure rfl) rfl rfl ?_ | (show opsA _ _ _ _ (⟨_, .alloc _, _, _, _, _⟩ :: _) _ _; (refine O_ef rfl (Ef_alloc WideF.wide rfl ?_); intro b)) | (show opsA _ _ _ _ (⟨_, .store _ _ _, _, _, _, _⟩ :: _) _ _; refine O_f1 (O_ef rfl (Ef_storew WideF.wide rfl rfl rfl rfl rfl ?_)))))
    all_goals first
        | exact End_s (RetC rfl rfl (i := 0) rfl rfl) (Shift.to (s' := ⟨_, [], _, [.box pb (pcs s t')], [], []⟩) ⟨rfl, ⟨_, _, _, rfl, hn3⟩, rfl, hok3⟩ ⟨rfl, rfl, rfl, trivial, Own.subi [1] (by decide) rfl rfl⟩)
        | trace_state
set_option maxRecDepth 100000 in
set_option maxHeartbeats 4000000 in
theorem sum_fn {s : List UInt8} (hs : s.length < 4611686018427387904) {k : Nat} (hop : ∀ j, j ≤ k → OC s 205 6 j) : OC s 181 5 (k + 1) := by
  intro H t nd t' pb hV ht h
  rw [prs_sum] at h
  cases h1 : prs s k 6 t with
  | no => rw [h1] at h; cases h
  | err e p => rw [h1] at h; cases h
  | ok n t1 =>
    rw [h1] at h
    dsimp only at h
    have kc := fun mb => chain_fn hs sum_ops hop (pb := pb) (mb := mb) hV ht h1 h
    refine Fn_of _ _ Tryz.func181 rfl Tryz.ntmps181 rfl fun c => ?_
    repeat' (first | (refine O_ev WideF.wide rfl (Ev_makeFunc (xs := [_]) (ys := []) (vs := [_]) (us := []) rfl rfl) rfl rfl ?_) | (refine O_ef rfl (Ef_makeMapT WideF.wide rfl ?_); intro mb) | (refine O_ef rfl (Ef_mapInsT WideF.wide rfl rfl rfl ?_)) | (refine O_ef rfl (Ef_pick [2, 0] (by decide) rfl rfl (Ef_call (I := [_, _]) WideF.wide (kc _) ⟨rfl, rfl, rfl, trivial⟩ rfl ?_)); rintro v H3 I3 hle3 ⟨⟨a3, n3, c3, rfl, hn3⟩, rfl, hok3⟩) | refine O_nil ?_ | refine A_seq ?_ | refine A_region ?_ | refine A_ret ?_ | (show opsA _ _ _ _ _ _ _; first | refine O_ev WideF.wide rfl (Ev_pure rfl) rfl rfl ?_ | (show opsA _ _ _ _ (⟨_, .alloc _, _, _, _, _⟩ :: _) _ _; (refine O_ef rfl (Ef_alloc WideF.wide rfl ?_); intro b)) | (show opsA _ _ _ _ (⟨_, .store _ _ _, _, _, _, _⟩ :: _) _ _; refine O_f1 (O_ef rfl (Ef_storew WideF.wide rfl rfl rfl rfl rfl ?_)))))
    all_goals first
        | exact End_s (RetC rfl rfl (i := 0) rfl rfl) (Shift.to (s' := ⟨_, [], _, [.box pb (pcs s t')], [], []⟩) ⟨rfl, ⟨_, _, _, rfl, hn3⟩, rfl, hok3⟩ ⟨rfl, rfl, rfl, trivial, Own.subi [1] (by decide) rfl rfl⟩)
        | trace_state
set_option maxRecDepth 100000 in
set_option maxHeartbeats 4000000 in
theorem product_fn {s : List UInt8} (hs : s.length < 4611686018427387904) {k : Nat} (hop : ∀ j, j ≤ k → OC s 217 7 j) : OC s 205 6 (k + 1) := by
  intro H t nd t' pb hV ht h
  rw [prs_product] at h
  cases h1 : prs s k 7 t with
  | no => rw [h1] at h; cases h
  | err e p => rw [h1] at h; cases h
  | ok n t1 =>
    rw [h1] at h
    dsimp only at h
    have kc := fun mb => chain_fn hs product_ops hop (pb := pb) (mb := mb) hV ht h1 h
    refine Fn_of _ _ Tryz.func205 rfl Tryz.ntmps205 rfl fun c => ?_
    repeat' (first | (refine O_ev WideF.wide rfl (Ev_makeFunc (xs := [_]) (ys := []) (vs := [_]) (us := []) rfl rfl) rfl rfl ?_) | (refine O_ef rfl (Ef_makeMapT WideF.wide rfl ?_); intro mb) | (refine O_ef rfl (Ef_mapInsT WideF.wide rfl rfl rfl ?_)) | (refine O_ef rfl (Ef_pick [2, 0] (by decide) rfl rfl (Ef_call (I := [_, _]) WideF.wide (kc _) ⟨rfl, rfl, rfl, trivial⟩ rfl ?_)); rintro v H3 I3 hle3 ⟨⟨a3, n3, c3, rfl, hn3⟩, rfl, hok3⟩) | refine O_nil ?_ | refine A_seq ?_ | refine A_region ?_ | refine A_ret ?_ | (show opsA _ _ _ _ _ _ _; first | refine O_ev WideF.wide rfl (Ev_pure rfl) rfl rfl ?_ | (show opsA _ _ _ _ (⟨_, .alloc _, _, _, _, _⟩ :: _) _ _; (refine O_ef rfl (Ef_alloc WideF.wide rfl ?_); intro b)) | (show opsA _ _ _ _ (⟨_, .store _ _ _, _, _, _, _⟩ :: _) _ _; refine O_f1 (O_ef rfl (Ef_storew WideF.wide rfl rfl rfl rfl rfl ?_)))))
    all_goals first
        | exact End_s (RetC rfl rfl (i := 0) rfl rfl) (Shift.to (s' := ⟨_, [], _, [.box pb (pcs s t')], [], []⟩) ⟨rfl, ⟨_, _, _, rfl, hn3⟩, rfl, hok3⟩ ⟨rfl, rfl, rfl, trivial, Own.subi [1] (by decide) rfl rfl⟩)
        | trace_state
set_option maxRecDepth 100000 in
theorem relations_fn {H : Hp} : Fn Tryz.prog 182 [] H [] fun v H' I => ∃ mb, v = .map (some mb) ∧ I = [.obj mb (smobj (sput (sput (sput (sput (sput (sput [] [61] (.int .i64 9)) [60, 62] (.int .i64 10)) [60] (.int .i64 11)) [60, 61] (.int .i64 12)) [62] (.int .i64 13)) [62, 61] (.int .i64 14)))] := by
  refine Fn_of _ _ Tryz.func182 rfl Tryz.ntmps182 rfl fun c => ?_
  repeat' (first | (refine O_ef rfl (Ef_makeMapT WideF.wide rfl ?_); intro mb) | (refine O_ef rfl (Ef_mapInsT WideF.wide rfl rfl rfl ?_)) | refine O_nil ?_ | refine A_seq ?_ | refine A_region ?_ | refine A_ret ?_ | (show opsA _ _ _ _ _ _ _; refine O_ev WideF.wide rfl (Ev_pure rfl) rfl rfl ?_))
  exact End_m (Ret1 rfl rfl) ⟨_, rfl, rfl⟩
set_option maxRecDepth 100000 in
set_option maxHeartbeats 8000000 in
theorem relation_fn {s : List UInt8} (hs : s.length < 4611686018427387904) {k : Nat} (hop : OC s 181 5 k) : OC s 153 4 (k + 1) := by
  intro H t nd t' pb hV ht h
  rw [prs_rel] at h
  cases h1 : prs s k 5 t with
  | no => rw [h1] at h; cases h
  | err e p => rw [h1] at h; cases h
  | ok n t1 =>
    rw [h1] at h
    dsimp only at h
    have kc := hop H t n t1 pb hV ht h1
    rcases rel_ops t1.kind with ⟨ho, hsh⟩ | ⟨op, ho, hsh, hsg⟩
    · rw [ho] at h
      dsimp only at h
      cases h
      refine Fn_of _ _ Tryz.func153 rfl Tryz.ntmps153 rfl fun c => ?_
      repeat' (first | (refine O_ef rfl (Ef_f1 (Ef_call (I := [_]) WideF.wide kc ⟨rfl, trivial⟩ rfl ?_)); rintro v H3 I3 hle3 ⟨⟨a3, n3, c3, rfl, hn3⟩, rfl, hok3⟩) | (show wpA _ _ _ (.region 2 _ _) _ _ _ _; (refine A_drawi WideF.wide (.q 1 (.q 2 (.q 3 (.q 4 (.q 5 (.e 0 (.e 6 (.q 7 (.q 8 (.q 9 (.q 10 (.q 11 (.done []))))))))))))) [] [0, 2] [1] (by decide +kernel) (by decide) rfl ?_; simp only [Own.picks, Own.rget, List.cons_append, List.nil_append, List.append_nil])) | (refine E_ef rfl (Ef_call (I := []) WideF.wide relations_fn trivial rfl ?_); rintro v H4 I4 hle4 ⟨mb, rfl, rfl⟩; refine ⟨⟨hle4, rfl⟩, ?_⟩) | (refine E_ef rfl (Ef_ev WideF.wide (Ev_lookupTok (i := 0) Tryz.zeroValue3 rfl rfl rfl) rfl rfl ?_); refine ⟨Grow.same rfl rfl, ?_⟩; rw [decide_eq_false hsh]) | refine O_nil ?_ | refine A_seq ?_ | refine A_region ?_ | refine A_skip ?_ | refine A_ret ?_ | (show drJ _ _ _ _ _ _ _ (.q _ _) _; refine D_q rfl ?_) | (show drJ _ _ _ _ _ _ _ (.e _ _) _; refine D_e rfl ?_) | (show drJ _ _ _ _ _ _ _ (.done _) _; refine D_done ?_; simp only [List.cons_append, List.nil_append]) | (show drQ _ _ _ _ _ _; first | refine D_ev rfl (Ev_pure rfl) rfl rfl ?_ | (show drQ _ _ _ ⟨_, .load _ _, _, _, _, _⟩ _ _; refine D_ev rfl (Ev_loadB1 (i := 0) rfl rfl rfl) rfl rfl ?_) | (show drQ _ _ _ ⟨_, .fieldAddr _ _ _, _, _, _, _⟩ _ _; refine D_ev rfl (Ev_fieldAddr rfl rfl rfl) rfl rfl ?_) | (show drQ _ _ _ ⟨_, .nilCheck _, _, _, _, _⟩ _ _; refine D_ev rfl (Ev_nilCheck rfl) rfl rfl ?_)) | (show opsA _ _ _ _ _ _ _; first | refine O_ev WideF.wide rfl (Ev_pure rfl) rfl rfl ?_ | (show opsA _ _ _ _ (⟨_, .load _ _, _, _, _, _⟩ :: _) _ _; refine O_ev WideF.wide rfl (Ev_loadB (i := 1) rfl rfl rfl) rfl rfl ?_) | (show opsA _ _ _ _ (⟨_, .alloc _, _, _, _, _⟩ :: _) _ _; (refine O_ef rfl (Ef_alloc WideF.wide rfl ?_); intro b)) | (show opsA _ _ _ _ (⟨_, .store _ _ _, _, _, _, _⟩ :: _) _ _; first | refine O_ef rfl (Ef_storew WideF.wide rfl rfl rfl rfl rfl ?_) | refine O_f2 (O_ef rfl (Ef_storew WideF.wide rfl rfl rfl rfl rfl ?_)))) | (show wpA _ _ _ (.cond _ _ _) _ _ _ _; refine A_iffalse rfl ?_))
      all_goals first
        | (exfalso; contradiction)
        | (exfalso; exact absurd trivial (by assumption))
        | (exfalso; exact absurd rfl (by assumption))
        | exact End_s (RetC rfl rfl (i := 0) rfl rfl) (Shift.to (s' := ⟨_, [], _, [.box pb (pcs s t')], [], []⟩) ⟨rfl, ⟨_, _, _, rfl, (NodesS.mono (by assumption) hn3)⟩, rfl, hok3⟩ ⟨rfl, rfl, rfl, trivial, Own.subi [3] (by decide) rfl rfl⟩)
        | trace_state
    · rw [ho] at h
      dsimp only at h
      cases hm : prs s k 5 (nxt s t1) with
      | no => rw [hm] at h; cases h
      | err e p => rw [hm] at h; cases h
      | ok n2 t2 =>
        rw [hm] at h
        dsimp only at h
        cases h
        refine Fn_of _ _ Tryz.func153 rfl Tryz.ntmps153 rfl fun c => ?_
        repeat' (first | (show opsA _ _ _ _ (⟨some 7, .call _, _, _, _, _⟩ :: _) _ _; refine O_ef rfl (Ef_f1 (Ef_call (I := [_]) WideF.wide kc ⟨rfl, trivial⟩ rfl ?_)); rintro v H3 I3 hle3 ⟨⟨a3, n3, c3, rfl, hn3⟩, rfl, hok3⟩; have kn := fun Hx => next_fn (H := Hx) (b := pb) hs hok3; have k2 := fun Hx (hx : HLe H3 Hx) => hop Hx (nxt s t1) n2 t' pb ((hV.mono hle3).mono hx) hok3.nxt hm) | (show wpA _ _ _ (.region 2 _ _) _ _ _ _; (refine A_drawi WideF.wide (.q 1 (.q 2 (.q 3 (.q 4 (.q 5 (.e 0 (.e 6 (.q 7 (.q 8 (.q 9 (.q 10 (.q 11 (.done []))))))))))))) [] [0, 2] [1] (by decide +kernel) (by decide) rfl ?_; simp only [Own.picks, Own.rget, List.cons_append, List.nil_append, List.append_nil])) | (refine E_ef rfl (Ef_call (I := []) WideF.wide relations_fn trivial rfl ?_); rintro v H4 I4 hle4 ⟨mb, rfl, rfl⟩; refine ⟨⟨hle4, rfl⟩, ?_⟩) | (refine E_ef rfl (Ef_ev WideF.wide (Ev_lookupTok (i := 0) Tryz.zeroValue3 rfl rfl rfl) rfl rfl ?_); refine ⟨Grow.same rfl rfl, ?_⟩; rw [decide_eq_true hsh, hsg]) | (refine O_ef rfl (Ef_f3 (Ef_call (I := [_]) WideF.wide (kn _) ⟨rfl, trivial⟩ rfl ?_)); rintro v H5 I5 hle5 ⟨rfl, rfl⟩) | (show wpA _ _ _ (.region 5 _ _) _ _ _ _; (refine A_drawi WideF.wide (.p 0 (.q 1 (.q 2 (.e 3 (.r (.e 4 (.q 5 (.e 6 (.done []))))))))) [4, 5, 6] [0, 1, 3] [2] (by decide +kernel) (by decide) rfl ?_; simp only [Own.picks, Own.rget, List.cons_append, List.nil_append, List.append_nil])) | (refine E_ef rfl (Ef_call (I := [_]) WideF.wide (k2 _ (hle4.trans hle5)) ⟨rfl, trivial⟩ rfl ?_); rintro v H6 I6 hle6 ⟨⟨a6, n6, c6, rfl, hn6⟩, rfl, hok6⟩; refine ⟨⟨hle6, rfl⟩, ?_⟩) | (refine E_ef rfl (Ef_buildF WideF.wide (xs := [_, _]) (vs := [.agg _, .agg _]) (css := [ncs n a3 n3 c3, ncs n2 a6 n6 c6]) rfl ⟨rfl, rfl, trivial⟩ rfl rfl rfl rfl rfl rfl (ncs_one2 _ _ _ _ _ _ _ _) ?_); intro b3 H7 hle7 hr7; refine ⟨⟨hle7, rfl⟩, ?_⟩; have hn7 := Nodes2 hr7 (NodesS.mono (((hle4.trans hle5).trans hle6).trans hle7) hn3) (NodesS.mono hle7 hn6)) | refine O_nil ?_ | refine A_seq ?_ | refine A_region ?_ | refine A_ret ?_ | (show drJ _ _ _ _ _ _ _ (.q _ _) _; refine D_q rfl ?_) | (show drJ _ _ _ _ _ _ _ (.e _ _) _; refine D_e rfl ?_) | (show drJ _ _ _ _ _ _ _ (.r _) _; refine D_r ?_; simp only [List.cons_append, List.nil_append]) | (show drJ _ _ _ _ _ _ _ (.done _) _; refine D_done ?_; simp only [List.cons_append, List.nil_append]) | (show drQ _ _ _ _ _ _; first | refine D_ev rfl (Ev_pure rfl) rfl rfl ?_ | (show drQ _ _ _ ⟨_, .load _ _, _, _, _, _⟩ _ _; first | refine D_ev rfl (Ev_loadB1 (i := 0) rfl rfl rfl) rfl rfl ?_ | refine D_ev rfl (Ev_loadB (i := 0) rfl rfl rfl) rfl rfl ?_) | (show drQ _ _ _ ⟨_, .fieldAddr _ _ _, _, _, _, _⟩ _ _; refine D_ev rfl (Ev_fieldAddr rfl rfl rfl) rfl rfl ?_) | (show drQ _ _ _ ⟨_, .build _ _, _, _, _, _⟩ _ _; refine D_ev rfl (Ev_build (vs := [(_, _), (_, _)]) ⟨rfl, rfl, rfl, rfl, trivial⟩ rfl) rfl rfl ?_) | (show drQ _ _ _ ⟨_, .nilCheck _, _, _, _, _⟩ _ _; refine D_ev rfl (Ev_nilCheck rfl) rfl rfl ?_)) | (show drJ _ _ _ _ _ _ _ (.p _ _) _; refine D_p rfl ?_) | (show drP _ _ _ _ _ _; refine D_pv rfl (Ev_pure rfl) rfl rfl ?_) | (show drE _ _ _ _ _ _ _; (show drE _ _ _ _ ⟨_, .store _ _ _, _, _, _, _⟩ _ _; (refine E_ef rfl (Ef_f3 (Ef_storew WideF.wide rfl rfl rfl rfl rfl ?_)); refine ⟨Grow.same rfl rfl, ?_⟩))) | (show opsA _ _ _ _ _ _ _; first | refine O_ev WideF.wide rfl (Ev_pure rfl) rfl rfl ?_ | (show opsA _ _ _ _ (⟨_, .load _ _, _, _, _, _⟩ :: _) _ _; refine O_ev WideF.wide rfl (Ev_loadB (i := 0) rfl rfl rfl) rfl rfl ?_) | (show opsA _ _ _ _ (⟨_, .alloc _, _, _, _, _⟩ :: _) _ _; (refine O_ef rfl (Ef_alloc WideF.wide rfl ?_); intro b)) | (show opsA _ _ _ _ (⟨_, .store _ _ _, _, _, _, _⟩ :: _) _ _; first | refine O_ef rfl (Ef_storew WideF.wide rfl rfl rfl rfl rfl ?_) | refine O_f3 (O_ef rfl (Ef_storew WideF.wide rfl rfl rfl rfl rfl ?_)))) | (show wpA _ _ _ (.cond _ _ _) _ _ _ _; refine A_iftrue rfl ?_))
        all_goals first
        | (exfalso; contradiction)
        | (exfalso; exact absurd trivial (by assumption))
        | (exfalso; exact absurd rfl (by assumption))
        | exact End_s (RetC rfl rfl (i := 0) rfl rfl) (Shift.to (s' := ⟨_, [], _, [.box pb (pcs s t')], [], []⟩) ⟨rfl, ⟨_, _, _, rfl, hn7⟩, rfl, hok6⟩ ⟨rfl, rfl, rfl, trivial, Own.subi [2] (by decide) rfl rfl⟩)
        | exact End_s (RetC rfl rfl (i := 0) rfl rfl) (Shift.to (s' := ⟨_, [], _, [.box pb (pcs s t')], [], []⟩) ⟨rfl, ⟨_, _, _, rfl, hn7⟩, rfl, hok6⟩ ⟨rfl, rfl, rfl, trivial, Own.subi [1] (by decide) rfl rfl⟩)
        | trace_state
set_option maxRecDepth 100000 in
set_option maxHeartbeats 8000000 in
theorem not_fn {s : List UInt8} (hs : s.length < 4611686018427387904) {k : Nat} (h0 : OC s 132 3 k) (hop : OC s 153 4 k) : OC s 132 3 (k + 1) := by
  intro H t nd t' pb hV ht h
  rw [prs_not] at h
  by_cases hk : t.kind = [110, 111, 116]
  · rw [if_pos hk] at h
    cases hm : prs s k 3 (nxt s t) with
    | no => rw [hm] at h; cases h
    | err e p => rw [hm] at h; cases h
    | ok n t1 =>
      rw [hm] at h
      dsimp only at h
      cases h
      have ka := fun Hx a (hr : HRow Hx a 1 1 1 [[sv [110, 111, 116]]]) => accept_yes (b := pb) hs ht hr hk
      have kr := fun Hx (hx : HLe H Hx) => h0 Hx (nxt s t) n t' pb (hV.mono hx) ht.nxt hm
      refine Fn_of _ _ Tryz.func132 rfl Tryz.ntmps132 rfl fun c => ?_
      repeat' (first | (refine O_ef rfl (Ef_build11 WideF.wide rfl rfl rfl ?_); intro bk; refine O_freeze (ones_of rfl) ?_; intro H1 hk1 hr1) | (show opsA _ _ _ _ (⟨some 8, .call _, _, _, _, _⟩ :: _) _ _; refine O_ef rfl (Ef_f1 (Ef_call (I := [_]) WideF.wide (ka _ _ hr1) ⟨rfl, rfl, trivial⟩ rfl ?_)); rintro v H2 I2 hle2 ⟨rfl, rfl⟩) | (show opsA _ _ _ _ (⟨some 13, .call _, _, _, _, _⟩ :: _) _ _; refine O_ef rfl (Ef_call (I := [_]) WideF.wide (kr _ (hk1.trans hle2)) ⟨rfl, trivial⟩ rfl ?_); rintro v H3 I3 hle3 ⟨⟨a3, n3, c3, rfl, hn3⟩, rfl, hok3⟩) | (refine O_ef rfl (Ef_buildF WideF.wide (xs := [_]) (vs := [.agg _]) (css := [ncs n a3 n3 c3]) rfl ⟨rfl, trivial⟩ rfl rfl rfl rfl rfl rfl (ncs_one1 _ _ _ _) ?_); intro b3 H4 hle4 hr4) | refine O_nil ?_ | refine A_seq ?_ | refine A_region ?_ | refine A_ret ?_ | (show opsA _ _ _ _ _ _ _; first | refine O_ev WideF.wide rfl (Ev_pure rfl) rfl rfl ?_ | (show opsA _ _ _ _ (⟨_, .build _ _, _, _, _, _⟩ :: _) _ _; refine O_ev WideF.wide rfl (Ev_build (vs := [(_, _), (_, _)]) ⟨rfl, rfl, rfl, rfl, trivial⟩ rfl) rfl rfl ?_) | (show opsA _ _ _ _ (⟨_, .alloc _, _, _, _, _⟩ :: _) _ _; (refine O_ef rfl (Ef_alloc WideF.wide rfl ?_); intro b)) | (show opsA _ _ _ _ (⟨_, .store _ _ _, _, _, _, _⟩ :: _) _ _; refine O_f1 (O_ef rfl (Ef_storew WideF.wide rfl rfl rfl rfl rfl ?_)))) | (show wpA _ _ _ (.cond _ _ _) _ _ _ _; refine A_iftrue rfl ?_))
      all_goals first
        | (exfalso; contradiction)
        | (exfalso; exact absurd trivial (by assumption))
        | (exfalso; exact absurd rfl (by assumption))
        | exact End_s (RetC rfl rfl (i := 0) rfl rfl) (Shift.to (s' := ⟨_, [], _, [.box pb (pcs s t')], [], []⟩) ⟨rfl, ⟨_, _, _, rfl, (Nodes1 hr4 (NodesS.mono hle4 hn3))⟩, rfl, hok3⟩ ⟨rfl, rfl, rfl, trivial, Own.subi [1] (by decide) rfl rfl⟩)
        | trace_state
  · rw [if_neg hk] at h
    have ka := fun Hx a (hr : HRow Hx a 1 1 1 [[sv [110, 111, 116]]]) => accept_no (s := s) (b := pb) hr hk
    have kr := fun Hx (hx : HLe H Hx) => hop Hx t nd t' pb (hV.mono hx) ht h
    refine Fn_of _ _ Tryz.func132 rfl Tryz.ntmps132 rfl fun c => ?_
    repeat' (first | (refine O_ef rfl (Ef_build11 WideF.wide rfl rfl rfl ?_); intro bk; refine O_freeze (ones_of rfl) ?_; intro H1 hk1 hr1) | (show opsA _ _ _ _ (⟨some 8, .call _, _, _, _, _⟩ :: _) _ _; refine O_ef rfl (Ef_f1 (Ef_call (I := [_]) WideF.wide (ka _ _ hr1) ⟨rfl, rfl, trivial⟩ rfl ?_)); rintro v H2 I2 hle2 ⟨rfl, rfl⟩) | (show opsA _ _ _ _ (⟨some 17, .call _, _, _, _, _⟩ :: _) _ _; refine O_ef rfl (Ef_call (I := [_]) WideF.wide (kr _ (hk1.trans hle2)) ⟨rfl, trivial⟩ rfl ?_); rintro v H3 I3 hle3 ⟨⟨a3, n3, c3, rfl, hn3⟩, rfl, hok3⟩) | refine O_nil ?_ | refine A_seq ?_ | refine A_region ?_ | refine A_skip ?_ | refine A_ret ?_ | (show opsA _ _ _ _ _ _ _; first | refine O_ev WideF.wide rfl (Ev_pure rfl) rfl rfl ?_ | (show opsA _ _ _ _ (⟨_, .alloc _, _, _, _, _⟩ :: _) _ _; (refine O_ef rfl (Ef_alloc WideF.wide rfl ?_); intro b)) | (show opsA _ _ _ _ (⟨_, .store _ _ _, _, _, _, _⟩ :: _) _ _; refine O_f1 (O_ef rfl (Ef_storew WideF.wide rfl rfl rfl rfl rfl ?_)))) | (show wpA _ _ _ (.cond _ _ _) _ _ _ _; refine A_iffalse rfl ?_))
    all_goals first
        | (exfalso; contradiction)
        | (exfalso; exact absurd trivial (by assumption))
        | (exfalso; exact absurd rfl (by assumption))
        | exact End_s (RetC rfl rfl (i := 0) rfl rfl) (Shift.to (s' := ⟨_, [], _, [.box pb (pcs s t')], [], []⟩) ⟨rfl, ⟨_, _, _, rfl, hn3⟩, rfl, hok3⟩ ⟨rfl, rfl, rfl, trivial, Own.subi [1] (by decide) rfl rfl⟩)
        | trace_state
set_option maxRecDepth 100000 in
set_option maxHeartbeats 8000000 in
theorem factor_fn {s : List UInt8} (hs : s.length < 4611686018427387904) {k : Nat} (h0 : OC s 217 7 k) (hop : OC s 222 8 k) : OC s 217 7 (k + 1) := by
  intro H t nd t' pb hV ht h
  rw [prs_fac] at h
  by_cases hk : t.kind = [45]
  · rw [if_pos hk] at h
    cases hm : prs s k 7 (nxt s t) with
    | no => rw [hm] at h; cases h
    | err e p => rw [hm] at h; cases h
    | ok n t1 =>
      rw [hm] at h
      dsimp only at h
      cases h
      have ka := fun Hx a (hr : HRow Hx a 1 1 1 [[sv [45]]]) => accept_yes (b := pb) hs ht hr hk
      have kr := fun Hx (hx : HLe H Hx) => h0 Hx (nxt s t) n t' pb (hV.mono hx) ht.nxt hm
      refine Fn_of _ _ Tryz.func217 rfl Tryz.ntmps217 rfl fun c => ?_
      repeat' (first | (refine O_ef rfl (Ef_build11 WideF.wide rfl rfl rfl ?_); intro bk; refine O_freeze (ones_of rfl) ?_; intro H1 hk1 hr1) | (show opsA _ _ _ _ (⟨some 8, .call _, _, _, _, _⟩ :: _) _ _; refine O_ef rfl (Ef_f1 (Ef_call (I := [_]) WideF.wide (ka _ _ hr1) ⟨rfl, rfl, trivial⟩ rfl ?_)); rintro v H2 I2 hle2 ⟨rfl, rfl⟩) | (show opsA _ _ _ _ (⟨some 13, .call _, _, _, _, _⟩ :: _) _ _; refine O_ef rfl (Ef_call (I := [_]) WideF.wide (kr _ (hk1.trans hle2)) ⟨rfl, trivial⟩ rfl ?_); rintro v H3 I3 hle3 ⟨⟨a3, n3, c3, rfl, hn3⟩, rfl, hok3⟩) | (refine O_ef rfl (Ef_buildF WideF.wide (xs := [_]) (vs := [.agg _]) (css := [ncs n a3 n3 c3]) rfl ⟨rfl, trivial⟩ rfl rfl rfl rfl rfl rfl (ncs_one1 _ _ _ _) ?_); intro b3 H4 hle4 hr4) | refine O_nil ?_ | refine A_seq ?_ | refine A_region ?_ | refine A_ret ?_ | (show opsA _ _ _ _ _ _ _; first | refine O_ev WideF.wide rfl (Ev_pure rfl) rfl rfl ?_ | (show opsA _ _ _ _ (⟨_, .build _ _, _, _, _, _⟩ :: _) _ _; refine O_ev WideF.wide rfl (Ev_build (vs := [(_, _), (_, _)]) ⟨rfl, rfl, rfl, rfl, trivial⟩ rfl) rfl rfl ?_) | (show opsA _ _ _ _ (⟨_, .alloc _, _, _, _, _⟩ :: _) _ _; (refine O_ef rfl (Ef_alloc WideF.wide rfl ?_); intro b)) | (show opsA _ _ _ _ (⟨_, .store _ _ _, _, _, _, _⟩ :: _) _ _; refine O_f1 (O_ef rfl (Ef_storew WideF.wide rfl rfl rfl rfl rfl ?_)))) | (show wpA _ _ _ (.cond _ _ _) _ _ _ _; refine A_iftrue rfl ?_))
      all_goals first
        | (exfalso; contradiction)
        | (exfalso; exact absurd trivial (by assumption))
        | (exfalso; exact absurd rfl (by assumption))
        | exact End_s (RetC rfl rfl (i := 0) rfl rfl) (Shift.to (s' := ⟨_, [], _, [.box pb (pcs s t')], [], []⟩) ⟨rfl, ⟨_, _, _, rfl, (Nodes1 hr4 (NodesS.mono hle4 hn3))⟩, rfl, hok3⟩ ⟨rfl, rfl, rfl, trivial, Own.subi [1] (by decide) rfl rfl⟩)
        | trace_state
  · rw [if_neg hk] at h
    have ka := fun Hx a (hr : HRow Hx a 1 1 1 [[sv [45]]]) => accept_no (s := s) (b := pb) hr hk
    have kr := fun Hx (hx : HLe H Hx) => hop Hx t nd t' pb (hV.mono hx) ht h
    refine Fn_of _ _ Tryz.func217 rfl Tryz.ntmps217 rfl fun c => ?_
    repeat' (first | (refine O_ef rfl (Ef_build11 WideF.wide rfl rfl rfl ?_); intro bk; refine O_freeze (ones_of rfl) ?_; intro H1 hk1 hr1) | (show opsA _ _ _ _ (⟨some 8, .call _, _, _, _, _⟩ :: _) _ _; refine O_ef rfl (Ef_f1 (Ef_call (I := [_]) WideF.wide (ka _ _ hr1) ⟨rfl, rfl, trivial⟩ rfl ?_)); rintro v H2 I2 hle2 ⟨rfl, rfl⟩) | (show opsA _ _ _ _ (⟨some 17, .call _, _, _, _, _⟩ :: _) _ _; refine O_ef rfl (Ef_call (I := [_]) WideF.wide (kr _ (hk1.trans hle2)) ⟨rfl, trivial⟩ rfl ?_); rintro v H3 I3 hle3 ⟨⟨a3, n3, c3, rfl, hn3⟩, rfl, hok3⟩) | refine O_nil ?_ | refine A_seq ?_ | refine A_region ?_ | refine A_skip ?_ | refine A_ret ?_ | (show opsA _ _ _ _ _ _ _; first | refine O_ev WideF.wide rfl (Ev_pure rfl) rfl rfl ?_ | (show opsA _ _ _ _ (⟨_, .alloc _, _, _, _, _⟩ :: _) _ _; (refine O_ef rfl (Ef_alloc WideF.wide rfl ?_); intro b)) | (show opsA _ _ _ _ (⟨_, .store _ _ _, _, _, _, _⟩ :: _) _ _; refine O_f1 (O_ef rfl (Ef_storew WideF.wide rfl rfl rfl rfl rfl ?_)))) | (show wpA _ _ _ (.cond _ _ _) _ _ _ _; refine A_iffalse rfl ?_))
    all_goals first
        | (exfalso; contradiction)
        | (exfalso; exact absurd trivial (by assumption))
        | (exfalso; exact absurd rfl (by assumption))
        | exact End_s (RetC rfl rfl (i := 0) rfl rfl) (Shift.to (s' := ⟨_, [], _, [.box pb (pcs s t')], [], []⟩) ⟨rfl, ⟨_, _, _, rfl, hn3⟩, rfl, hok3⟩ ⟨rfl, rfl, rfl, trivial, Own.subi [1] (by decide) rfl rfl⟩)
        | trace_state
end Go.Proofs.YtnoadopmeoohmaaGreatDoor
