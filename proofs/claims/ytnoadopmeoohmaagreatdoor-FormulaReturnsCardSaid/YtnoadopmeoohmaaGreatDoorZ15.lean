import Derived.Test.YtnoadopmeoohmaaGreatDoorZ14
/-
  The scanner: scan. Printed by genF10.py.
-/
namespace Go.Proofs.YtnoadopmeoohmaaGreatDoor
open Go
set_option linter.unusedVariables false
set_option linter.unusedSimpArgs false
attribute [local irreducible] wpA opsA drJ drQ drE Ef Ev Shift Fn
theorem tokAt_end {l : List UInt8} {q : Nat} (h : q = l.length) : tokAt l q = ⟨[46], [], q⟩ := by
  unfold tokAt
  rw [List.drop_of_length_le (by omega)]
theorem tokAt_of {l : List UInt8} {q : Nat} {c : UInt8} (h : l.drop q = c :: l.drop (q + 1)) : tokAt l q =
    if isDg c then (if 1 < ((l.drop q).takeWhile isDg).length ∧ c = 48 then ⟨[33], (l.drop q).takeWhile isDg, q⟩ else ⟨[110], (l.drop q).takeWhile isDg, q⟩)
    else if isLt c then (if resv ((l.drop q).takeWhile isWd) then ⟨(l.drop q).takeWhile isWd, (l.drop q).takeWhile isWd, q⟩ else ⟨[105], (l.drop q).takeWhile isWd, q⟩)
    else if c = 34 then quoT l q
    else match fops (l.drop q) with
      | some o => ⟨o, o, q⟩
      | none => ⟨[33], [], q⟩ := by
  unfold tokAt
  have e : ∀ n, ((c :: l.drop (q + 1)).take (n + 1)).any isCt = decide (ctl ((c :: l.drop (q + 1)).take (n + 1))) := fun n => by
    rw [Bool.eq_iff_iff, decide_eq_true_eq]; exact (ctl_any _).symm
  unfold quoT
  rw [h]
  simp only [e, decide_eq_true_eq]
  cases qlen (l.drop (q + 1)) <;> rfl
theorem fops_some {l : List UInt8} {i : Nat} {o : List UInt8} (hi : opsL[i]? = some o) (ho : o.isPrefixOf l = true) (hall : ∀ (j : Nat) (o' : List UInt8), j < i → opsL[j]? = some o' → o'.isPrefixOf l = false) : fops l = some o := by
  unfold fops
  obtain ⟨hlt, rfl⟩ := List.getElem?_eq_some_iff.1 hi
  have h1 : opsL = opsL.take i ++ opsL[i] :: opsL.drop (i + 1) := by rw [← List.drop_eq_getElem_cons hlt, List.take_append_drop]
  have h2 : opsL.find? (fun o => o.isPrefixOf l) = (opsL.take i ++ opsL[i] :: opsL.drop (i + 1)).find? (fun o => o.isPrefixOf l) := congrArg _ h1
  rw [h2, List.find?_append, List.find?_eq_none.2 (fun o' ho' => ?_), Option.none_or, List.find?_cons, ho]
  obtain ⟨j, hj, rfl⟩ := List.getElem_of_mem ho'
  rw [List.length_take] at hj
  rw [List.getElem_take]
  have := hall j opsL[j] (by omega) (by simp)
  simp [this]
theorem fops_none {l : List UInt8} (hall : ∀ (j : Nat) (o' : List UInt8), j < 15 → opsL[j]? = some o' → o'.isPrefixOf l = false) : fops l = none := by
  unfold fops
  rw [List.find?_eq_none]
  intro o' ho'
  obtain ⟨j, hj, rfl⟩ := List.getElem_of_mem ho'
  have h15 : opsL.length = 15 := rfl
  have := hall j opsL[j] (by omega) (by simp)
  simp [this]
set_option maxRecDepth 100000 in
set_option maxHeartbeats 8000000 in
theorem scan_fn {H : Hp} {l : List UInt8} {p : Nat} (hl : l.length < 4611686018427387904) (hp : p ≤ l.length) :
    Fn Tryz.prog 81 [sv l, .int .i64 p] H [] fun v H' I => v = .agg (tcs (scn l p)).toArray ∧ I = [] := by
  refine Fn_of _ _ Tryz.func81 rfl Tryz.ntmps81 rfl fun c => ?_
  repeat' (first | refine O_nil ?_ | refine A_seq ?_ | refine A_region ?_ | refine A_block ?_ | (show opsA _ _ _ _ _ _ _; first | (show opsA _ _ _ _ (⟨_, .alloc _, _, _, _, _⟩ :: _) _ _; (refine O_ef rfl (Ef_alloc WideF.wide rfl ?_); intro b)) | (show opsA _ _ _ _ (⟨_, .box _ _, _, _, _, _⟩ :: _) _ _; (refine O_ef rfl (Ef_box1 WideF.wide rfl rfl rfl ?_); intro b))))
  refine A_loopu (fun m s => ∃ q b2 b3 b4 : Nat, m = l.length - q ∧ p ≤ q ∧ q ≤ l.length ∧ (∀ (j : Nat) (c : UInt8), p ≤ j → j < q → l[j]? = some c → isSp c = true) ∧ s = ⟨97, [(2, .pointer (some ⟨b2, 0, none⟩)), (3, .pointer (some ⟨b3, 0, none⟩)), (4, .pointer (some ⟨b4, 0, none⟩))], H, [.box b3 [.int .i64 q], .box b2 [sv l], .box b4 [sv [], sv [], .int .i64 0]], [], []⟩) ?_ ?_
  · exact Shift.to ⟨_, p, _, _, _, rfl, Nat.le_refl _, hp, fun j _ h3 h4 => absurd h3 (by omega), rfl⟩ ⟨rfl, rfl, rfl, ⟨rfl, rfl, rfl, trivial⟩, Own.subi [1, 2, 0] (by decide) rfl rfl⟩
  rintro m s ⟨q, b2, b3, b4, rfl, hpq, hql, hall, rfl⟩
  by_cases hlt : q < l.length
  · obtain ⟨u, hu1, hu2, hu3⟩ := get_byte l q hlt
    have ksp := space_fn (H := H) (b := bat l q)
    have esp : decide (bat l q = 32 ∨ bat l q = 9) = isSp u := by rw [isSp_eq, hu2]
    rw [esp] at ksp
    cases hsp : isSp u <;> rw [hsp] at ksp
    · have htw : scn l p = tokAt l q := by
        unfold scn
        rw [tw_len hpq hql hall (fun c' h9 => by rw [hu1] at h9; cases h9; exact hsp)]
        congr 1; omega
      rw [tokAt_of hu3] at htw
      refine A_freezeBox (by intro u hu; simp at hu; subst hu; rfl) ?_
      intro H1 hle1 h3
      refine A_freezeBox (by intro u hu; simp at hu; subst hu; rfl) ?_
      intro H2 hle2 h2
      have h3' : H2 b3 0 = some (.int .i64 q) := (h3.mono hle2) 0 _ rfl
      have h2' : H2 b2 0 = some (sv l) := h2 0 _ rfl
      have ksp' := space_fn (H := H2) (b := bat l q)
      rw [esp, hsp] at ksp'
      have kd := scan2_fn (H := H2) (b := bat l q)
      have ed : decide (dgt (bat l q)) = isDg u := by rw [isDg_eq, hu2]
      rw [ed] at kd
      cases hd : isDg u <;> rw [hd] at kd
      · have kid := identifier_fn (H := H2) (l := (l.take (q + 1)).drop q) (by simp; omega)
        have e1 : (l.take (q + 1)).drop q = [u] := by
          rw [List.drop_take, show q + 1 - q = 1 by omega, hu3]; rfl
        have eid : decide (idt ((l.take (q + 1)).drop q)) = isLt u := by rw [e1, isLt_eq]; exact decide_eq_decide.2 (idt_one u)
        rw [eid] at kid
        cases hlet : isLt u <;> rw [hlet] at kid
        · by_cases h34 : u = 34
          · have hb34 : bat l q = 34 := by rw [hu2, h34]; rfl
            have kq := quoted_fn (H := H2) hl hlt
            simp only [hd, hlet, if_true, if_false, Bool.false_eq_true] at htw
            rw [if_pos h34] at htw
            rw [htw]
            repeat' (first | (refine O_ev WideF.wide rfl (Ev_loadH1 rfl h3') rfl rfl ?_) | (refine O_ev WideF.wide rfl (Ev_loadH1 rfl h2') rfl rfl ?_) | (refine O_ef rfl (Ef_callp WideF.wide (ksp') ⟨rfl, trivial⟩ rfl ?_)) | (refine O_ef rfl (Ef_callvp WideF.wide kd rfl ⟨rfl, trivial⟩ rfl ?_)) | (refine O_ef rfl (Ef_callp WideF.wide (kid) ⟨rfl, trivial⟩ rfl ?_)) | (refine O_ev WideF.wide rfl (Ev_makeFunc (xs := []) (ys := [_, _]) (vs := []) (us := [_, _]) rfl rfl) rfl rfl ?_) | (refine O_ef rfl (Ef_call (I := []) WideF.wide kq ⟨rfl, rfl, trivial⟩ rfl ?_); rintro v H3 I3 hle3 ⟨rfl, rfl, rfl⟩) | refine O_nil ?_ | refine A_seq ?_ | refine A_region ?_ | refine A_skip ?_ | refine A_ret ?_ | refine A_block ?_ | (show opsA _ _ _ _ _ _ _; first | (refine O_split rfl rfl (fun h => ?_) (fun h => ?_) <;> try (exfalso; omega)) | refine O_ev WideF.wide rfl (Ev_pure rfl) rfl rfl ?_ | (show opsA _ _ _ _ (⟨_, .call _, _, _, _, _⟩ :: _) _ _; refine O_ev WideF.wide rfl (Ev_slen rfl) rfl rfl ?_) | (show opsA _ _ _ _ (⟨_, .binOp _ _ _ _ _, _, _, _, _⟩ :: _) _ _; refine O_ev WideF.wide rfl (Ev_add rfl rfl (wi64 (by omega))) rfl rfl ?_) | (show opsA _ _ _ _ (⟨_, .index _ _ _, _, _, _, _⟩ :: _) _ _; refine O_ev WideF.wide rfl (Ev_sindex rfl rfl (by omega) (by omega)) rfl rfl ?_) | (show opsA _ _ _ _ (⟨_, .slice _ _ _ _ _, _, _, _, _⟩ :: _) _ _; refine O_ev WideF.wide rfl (Ev_sslice rfl rfl rfl (by omega) (by omega) (by omega)) rfl rfl ?_) | (show opsA _ _ _ _ (⟨_, .store _ _ _, _, _, _, _⟩ :: _) _ _; refine O_ef rfl (Ef_storew WideF.wide rfl rfl rfl rfl rfl ?_))) | (show wpA _ _ _ (.exit _) _ _ _ _; refine A_exit rfl ?_) | (show wpA _ _ _ (.cond _ _ _) _ _ _ _; first | (refine A_if rfl (fun h => ?_) (fun h => ?_) <;> try (exfalso; omega)) | refine A_iffalse rfl ?_))
            all_goals first
              | (exfalso; omega)
              | (exfalso; contradiction)
              | exact End_e (RetC rfl rfl (i := 0) rfl rfl) ⟨rfl, rfl⟩
              | trace_state
          · have hb34 : ¬ bat l q = 34 := fun h9 => h34 ((byte_eq u 34 (by decide)).2 (by omega))
            simp only [hd, hlet, h34, if_true, if_false, Bool.false_eq_true] at htw
            repeat' (first | (refine O_ev WideF.wide rfl (Ev_loadH1 rfl h3') rfl rfl ?_) | (refine O_ev WideF.wide rfl (Ev_loadH1 rfl h2') rfl rfl ?_) | (refine O_ef rfl (Ef_callp WideF.wide (ksp') ⟨rfl, trivial⟩ rfl ?_)) | (refine O_ef rfl (Ef_callvp WideF.wide kd rfl ⟨rfl, trivial⟩ rfl ?_)) | (refine O_ef rfl (Ef_callp WideF.wide (kid) ⟨rfl, trivial⟩ rfl ?_)) | (refine O_ev WideF.wide rfl (Ev_makeFunc (xs := []) (ys := [_, _]) (vs := []) (us := [_, _]) rfl rfl) rfl rfl ?_) | (refine O_ef rfl (Ef_buildn WideF.wide (xs := [_, _, _, _, _, _, _, _, _, _, _, _, _, _, _]) (vs := [sv [60, 62], sv [60, 61], sv [62, 61], sv [61], sv [60], sv [62], sv [43], sv [45], sv [38], sv [42], sv [47], sv [37], sv [40], sv [41], sv [44]]) (css := opsL.map fun o => [sv o]) rfl ⟨rfl, rfl, rfl, rfl, rfl, rfl, rfl, rfl, rfl, rfl, rfl, rfl, rfl, rfl, rfl, trivial⟩ rfl rfl rfl rfl rfl rfl ?_); intro bl; refine O_freeze (ones_of rfl) ?_; intro H' hk hr) | refine O_nil ?_ | refine A_seq ?_ | refine A_region ?_ | refine A_skip ?_ | refine A_block ?_ | (show opsA _ _ _ _ _ _ _; first | (refine O_split rfl rfl (fun h => ?_) (fun h => ?_) <;> try (exfalso; omega)) | refine O_ev WideF.wide rfl (Ev_pure rfl) rfl rfl ?_ | (show opsA _ _ _ _ (⟨_, .call _, _, _, _, _⟩ :: _) _ _; first | refine O_ev WideF.wide rfl (Ev_llen rfl) rfl rfl ?_ | refine O_ev WideF.wide rfl (Ev_slen rfl) rfl rfl ?_) | (show opsA _ _ _ _ (⟨_, .binOp _ _ _ _ _, _, _, _, _⟩ :: _) _ _; refine O_ev WideF.wide rfl (Ev_add rfl rfl (wi64 (by omega))) rfl rfl ?_) | (show opsA _ _ _ _ (⟨_, .index _ _ _, _, _, _, _⟩ :: _) _ _; refine O_ev WideF.wide rfl (Ev_sindex rfl rfl (by omega) (by omega)) rfl rfl ?_) | (show opsA _ _ _ _ (⟨_, .slice _ _ _ _ _, _, _, _, _⟩ :: _) _ _; refine O_ev WideF.wide rfl (Ev_sslice rfl rfl rfl (by omega) (by omega) (by omega)) rfl rfl ?_)) | (show wpA _ _ _ (.exit _) _ _ _ _; refine A_exit rfl ?_) | (show wpA _ _ _ (.cond _ _ _) _ _ _ _; first | (refine A_if rfl (fun h => ?_) (fun h => ?_) <;> try (exfalso; omega)) | refine A_iffalse rfl ?_))
            all_goals try (exfalso; omega)
            have h3'' : H' b3 0 = some (.int .i64 q) := hk _ _ _ h3'
            have h2'' : H' b2 0 = some (sv l) := hk _ _ _ h2'
            refine A_loopu (fun m s => ∃ (i : Nat), m = 15 - i ∧ i ≤ 15 ∧ (∀ (j : Nat) (o' : List UInt8), j < i → opsL[j]? = some o' → o'.isPrefixOf (l.drop q) = false) ∧ s = ⟨97, [(2, .pointer (some ⟨b2, 0, none⟩)), (3, .pointer (some ⟨b3, 0, none⟩)), (4, .pointer (some ⟨b4, 0, none⟩)), (79, .slice (some ⟨bl, 0, none⟩) 15 15), (80, .int .i64 (15 : Nat)), (81, .int .i64 i)], H', [.box b4 [sv [], sv [], .int .i64 0]], [], []⟩) ?_ ?_
            · exact Shift.to ⟨_, 0, rfl, by omega, fun j _ h9 => absurd h9 (by omega), rfl⟩ ⟨rfl, rfl, rfl, ⟨rfl, rfl, rfl, rfl, rfl, rfl, trivial⟩, Own.subi [0] (by decide) rfl rfl⟩
            rintro m s ⟨i, rfl, hi, hno, rfl⟩
            by_cases hilt : i < 15
            · obtain ⟨rb, ro, oo, heq, hoi, hrc⟩ := hr.atm i hilt
              cases heq
              have kp := HasPrefix_fn (H := H') (l := l.drop q) (p := oo)
              cases hpre : oo.isPrefixOf (l.drop q) <;> rw [hpre] at kp
              · repeat' (first | (refine O_ev WideF.wide rfl (Ev_loadH1 rfl h3'') rfl rfl ?_) | (refine O_ev WideF.wide rfl (Ev_loadH1 rfl h2'') rfl rfl ?_) | (refine O_ev WideF.wide rfl (Ev_loadH1 rfl (hrc 0 _ rfl)) rfl rfl ?_) | (refine O_ef rfl (Ef_callp WideF.wide (kp) ⟨rfl, rfl, trivial⟩ rfl ?_)) | refine O_nil ?_ | refine A_seq ?_ | refine A_region ?_ | refine A_skip ?_ | refine A_block ?_ | (show opsA _ _ _ _ _ _ _; first | refine O_ev WideF.wide rfl (Ev_pure rfl) rfl rfl ?_ | (show opsA _ _ _ _ (⟨_, .indexAddr _ _ _, _, _, _, _⟩ :: _) _ _; refine O_ev WideF.wide rfl (Ev_indexAddr rfl rfl (by omega) (by omega)) rfl rfl ?_) | (show opsA _ _ _ _ (⟨_, .binOp _ _ _ _ _, _, _, _, _⟩ :: _) _ _; refine O_ev WideF.wide rfl (Ev_add rfl rfl (wi64 (by omega))) rfl rfl ?_) | (show opsA _ _ _ _ (⟨_, .slice _ _ _ _ _, _, _, _, _⟩ :: _) _ _; refine O_ev WideF.wide rfl (Ev_sslicel rfl rfl (by omega) (by omega)) rfl rfl ?_)) | (show wpA _ _ _ (.cond _ _ _) _ _ _ _; first | (refine A_if rfl (fun h => ?_) (fun h => ?_) <;> try (exfalso; omega)) | refine A_iffalse rfl ?_))
                all_goals first
                  | (exfalso; omega)
                  | exact Shift.to ⟨_, by omega, i + 1, rfl, by omega, fun j o' h9 h8 => (if h7 : j = i then (by subst h7; rw [hoi] at h8; cases h8; exact hpre) else hno j o' (by omega) h8), rfl⟩ ⟨rfl, rfl, rfl, ⟨rfl, rfl, rfl, rfl, rfl, rfl, trivial⟩, Own.subi [0] (by decide) rfl rfl⟩
                  | trace_state
              · rw [fops_some hoi hpre hno] at htw
                dsimp only at htw
                rw [htw]
                repeat' (first | (refine O_ev WideF.wide rfl (Ev_loadH1 rfl h3'') rfl rfl ?_) | (refine O_ev WideF.wide rfl (Ev_loadH1 rfl h2'') rfl rfl ?_) | (refine O_ev WideF.wide rfl (Ev_loadH1 rfl (hrc 0 _ rfl)) rfl rfl ?_) | (refine O_ef rfl (Ef_callp WideF.wide (kp) ⟨rfl, rfl, trivial⟩ rfl ?_)) | refine O_nil ?_ | refine A_seq ?_ | refine A_region ?_ | refine A_skip ?_ | refine A_ret ?_ | refine A_block ?_ | (show opsA _ _ _ _ _ _ _; first | refine O_ev WideF.wide rfl (Ev_pure rfl) rfl rfl ?_ | (show opsA _ _ _ _ (⟨_, .indexAddr _ _ _, _, _, _, _⟩ :: _) _ _; refine O_ev WideF.wide rfl (Ev_indexAddr rfl rfl (by omega) (by omega)) rfl rfl ?_) | (show opsA _ _ _ _ (⟨_, .slice _ _ _ _ _, _, _, _, _⟩ :: _) _ _; refine O_ev WideF.wide rfl (Ev_sslicel rfl rfl (by omega) (by omega)) rfl rfl ?_) | (show opsA _ _ _ _ (⟨_, .build _ _, _, _, _, _⟩ :: _) _ _; refine O_ev WideF.wide rfl (Ev_build (vs := [(_, _), (_, _), (_, _)]) ⟨rfl, rfl, rfl, rfl, rfl, rfl, trivial⟩ rfl) rfl rfl ?_) | (show opsA _ _ _ _ (⟨_, .store _ _ _, _, _, _, _⟩ :: _) _ _; refine O_ef rfl (Ef_storew WideF.wide rfl rfl rfl rfl rfl ?_))) | (show wpA _ _ _ (.cond _ _ _) _ _ _ _; first | (refine A_if rfl (fun h => ?_) (fun h => ?_) <;> try (exfalso; omega)) | refine A_iftrue rfl ?_))
                all_goals first
                  | (exfalso; omega)
                  | exact End_e (RetC rfl rfl (i := 0) rfl rfl) ⟨rfl, rfl⟩
                  | trace_state
            · obtain rfl : i = 15 := by omega
              rw [fops_none hno] at htw
              dsimp only at htw
              rw [htw]
              repeat' (first | (refine O_ev WideF.wide rfl (Ev_loadH1 rfl h3'') rfl rfl ?_) | refine O_nil ?_ | refine A_seq ?_ | refine A_region ?_ | refine A_ret ?_ | (show opsA _ _ _ _ _ _ _; first | refine O_ev WideF.wide rfl (Ev_pure rfl) rfl rfl ?_ | (show opsA _ _ _ _ (⟨_, .build _ _, _, _, _, _⟩ :: _) _ _; refine O_ev WideF.wide rfl (Ev_build (vs := [(_, _), (_, _), (_, _)]) ⟨rfl, rfl, rfl, rfl, rfl, rfl, trivial⟩ rfl) rfl rfl ?_) | (show opsA _ _ _ _ (⟨_, .store _ _ _, _, _, _, _⟩ :: _) _ _; refine O_ef rfl (Ef_storew WideF.wide rfl rfl rfl rfl rfl ?_))) | (show wpA _ _ _ (.exit _) _ _ _ _; refine A_exit rfl ?_) | (show wpA _ _ _ (.cond _ _ _) _ _ _ _; (refine A_if rfl (fun h => ?_) (fun h => ?_) <;> try (exfalso; omega))))
              all_goals first
                | (exfalso; omega)
                | exact End_e (RetC rfl rfl (i := 0) rfl rfl) ⟨rfl, rfl⟩
                | trace_state
        · obtain ⟨w, hw⟩ : ∃ w, w = (l.drop q).takeWhile isWd := ⟨_, rfl⟩
          have ktk := take_fn (f := 129) (pr := isWd) (fun H u => scan3_fn) (H := H2) hl hql h3' h2'
          rw [← hw] at ktk htw
          have kres := reserved_fn (H := H2) (s := w)
          simp only [hd, hlet, if_true, if_false, Bool.false_eq_true] at htw
          cases hres : resv w <;> rw [hres] at kres
          all_goals
            simp only [hres, if_true, if_false, Bool.false_eq_true] at htw
            rw [htw]
            repeat' (first | (refine O_ev WideF.wide rfl (Ev_loadH1 rfl h3') rfl rfl ?_) | (refine O_ev WideF.wide rfl (Ev_loadH1 rfl h2') rfl rfl ?_) | (refine O_ef rfl (Ef_callp WideF.wide (ksp') ⟨rfl, trivial⟩ rfl ?_)) | (refine O_ef rfl (Ef_callvp WideF.wide kd rfl ⟨rfl, trivial⟩ rfl ?_)) | (refine O_ef rfl (Ef_callp WideF.wide (kid) ⟨rfl, trivial⟩ rfl ?_)) | (refine O_ef rfl (Ef_callcp WideF.wide (args := [.func (.func 129) #[] #[]]) (caps := [.pointer (some ⟨b3, 0, none⟩), .pointer (some ⟨b2, 0, none⟩)]) ktk rfl ⟨rfl, trivial⟩ rfl ?_)) | (refine O_ev WideF.wide rfl (Ev_makeFunc (xs := []) (ys := [_, _]) (vs := []) (us := [_, _]) rfl rfl) rfl rfl ?_) | (refine O_ef rfl (Ef_callp WideF.wide (kres) ⟨rfl, trivial⟩ rfl ?_)) | refine O_nil ?_ | refine A_seq ?_ | refine A_region ?_ | refine A_skip ?_ | refine A_ret ?_ | refine A_block ?_ | (show opsA _ _ _ _ _ _ _; first | (refine O_split rfl rfl (fun h => ?_) (fun h => ?_) <;> try (exfalso; omega)) | refine O_ev WideF.wide rfl (Ev_pure rfl) rfl rfl ?_ | (show opsA _ _ _ _ (⟨_, .call _, _, _, _, _⟩ :: _) _ _; refine O_ev WideF.wide rfl (Ev_slen rfl) rfl rfl ?_) | (show opsA _ _ _ _ (⟨_, .binOp _ _ _ _ _, _, _, _, _⟩ :: _) _ _; refine O_ev WideF.wide rfl (Ev_add rfl rfl (wi64 (by omega))) rfl rfl ?_) | (show opsA _ _ _ _ (⟨_, .index _ _ _, _, _, _, _⟩ :: _) _ _; refine O_ev WideF.wide rfl (Ev_sindex rfl rfl (by omega) (by omega)) rfl rfl ?_) | (show opsA _ _ _ _ (⟨_, .slice _ _ _ _ _, _, _, _, _⟩ :: _) _ _; refine O_ev WideF.wide rfl (Ev_sslice rfl rfl rfl (by omega) (by omega) (by omega)) rfl rfl ?_) | (show opsA _ _ _ _ (⟨_, .build _ _, _, _, _, _⟩ :: _) _ _; refine O_ev WideF.wide rfl (Ev_build (vs := [(_, _), (_, _), (_, _)]) ⟨rfl, rfl, rfl, rfl, rfl, rfl, trivial⟩ rfl) rfl rfl ?_) | (show opsA _ _ _ _ (⟨_, .store _ _ _, _, _, _, _⟩ :: _) _ _; refine O_ef rfl (Ef_storew WideF.wide rfl rfl rfl rfl rfl ?_))) | (show wpA _ _ _ (.exit _) _ _ _ _; refine A_exit rfl ?_) | (show wpA _ _ _ (.cond _ _ _) _ _ _ _; first | (refine A_if rfl (fun h => ?_) (fun h => ?_) <;> try (exfalso; omega)) | refine A_iftrue rfl ?_ | refine A_iffalse rfl ?_))
            all_goals first
              | (exfalso; omega)
              | (exfalso; contradiction)
              | exact End_e (RetC rfl rfl (i := 0) rfl rfl) ⟨rfl, rfl⟩
              | trace_state
      · obtain ⟨w, hw⟩ : ∃ w, w = (l.drop q).takeWhile isDg := ⟨_, rfl⟩
        have ktk := take_fn (f := 128) (pr := isDg) (fun H u => by rw [isDg_eq]; exact scan2_fn) (H := H2) hl hql h3' h2'
        have hw1 : w = u :: ((l.drop (q + 1)).takeWhile isDg) := by rw [hw, hu3, List.takeWhile_cons, hd]; rfl
        have hw0 : bat w 0 = bat l q := by rw [hu2, hw1]; rfl
        have hwl : 1 ≤ w.length ∧ w.length ≤ l.length := by
          constructor
          · rw [hw1]; simp
          · rw [hw]
            have h1 := (List.takeWhile_sublist (l := l.drop q) isDg).length_le
            have h2 := List.length_drop (l := l) (i := q)
            omega
        have h48 : u = 48 ↔ bat w 0 = 48 := by rw [hw0, hu2]; have := byte_eq u 48 (by decide); exact ⟨fun h9 => (by rw [h9]; rfl), fun h9 => this.2 (by omega)⟩
        rw [← hw] at ktk htw
        simp only [hd, if_true, h48] at htw
        by_cases hz : 1 < w.length ∧ bat w 0 = 48
        all_goals
          simp only [hz, if_true, if_false, and_self] at htw
          rw [htw]
          repeat' (first | (refine O_ev WideF.wide rfl (Ev_loadH1 rfl h3') rfl rfl ?_) | (refine O_ev WideF.wide rfl (Ev_loadH1 rfl h2') rfl rfl ?_) | (refine O_ef rfl (Ef_callp WideF.wide (ksp') ⟨rfl, trivial⟩ rfl ?_)) | (refine O_ef rfl (Ef_callvp WideF.wide kd rfl ⟨rfl, trivial⟩ rfl ?_)) | (refine O_ef rfl (Ef_callcp WideF.wide (args := [.func (.func 128) #[] #[]]) (caps := [.pointer (some ⟨b3, 0, none⟩), .pointer (some ⟨b2, 0, none⟩)]) ktk rfl ⟨rfl, trivial⟩ rfl ?_)) | (refine O_ev WideF.wide rfl (Ev_makeFunc (xs := []) (ys := [_, _]) (vs := []) (us := [_, _]) rfl rfl) rfl rfl ?_) | refine O_nil ?_ | refine A_seq ?_ | refine A_region ?_ | refine A_skip ?_ | refine A_ret ?_ | refine A_block ?_ | (show opsA _ _ _ _ _ _ _; first | (refine O_split rfl rfl (fun h => ?_) (fun h => ?_) <;> try (exfalso; omega)) | refine O_ev WideF.wide rfl (Ev_pure rfl) rfl rfl ?_ | (show opsA _ _ _ _ (⟨_, .call _, _, _, _, _⟩ :: _) _ _; refine O_ev WideF.wide rfl (Ev_slen rfl) rfl rfl ?_) | (show opsA _ _ _ _ (⟨_, .index _ _ _, _, _, _, _⟩ :: _) _ _; refine O_ev WideF.wide rfl (Ev_sindex rfl rfl (by omega) (by omega)) rfl rfl ?_) | (show opsA _ _ _ _ (⟨_, .build _ _, _, _, _, _⟩ :: _) _ _; refine O_ev WideF.wide rfl (Ev_build (vs := [(_, _), (_, _), (_, _)]) ⟨rfl, rfl, rfl, rfl, rfl, rfl, trivial⟩ rfl) rfl rfl ?_) | (show opsA _ _ _ _ (⟨_, .store _ _ _, _, _, _, _⟩ :: _) _ _; refine O_ef rfl (Ef_storew WideF.wide rfl rfl rfl rfl rfl ?_)) | refine O_skip WideF.wide rfl rfl rfl ?_) | (show wpA _ _ _ (.exit _) _ _ _ _; refine A_exit rfl ?_) | (show wpA _ _ _ (.cond _ _ _) _ _ _ _; first | (refine A_if rfl (fun h => ?_) (fun h => ?_) <;> try (exfalso; omega)) | refine A_iftrue rfl ?_ | refine A_iffalse rfl ?_))
          all_goals first
            | (exfalso; omega)
            | (exfalso; contradiction)
            | exact End_e (RetC rfl rfl (i := 0) rfl rfl) ⟨rfl, rfl⟩
            | trace_state
    · repeat' (first | (refine O_ef rfl (Ef_callp WideF.wide (ksp) ⟨rfl, trivial⟩ rfl ?_)) | refine O_nil ?_ | refine A_seq ?_ | refine A_region ?_ | refine A_skip ?_ | refine A_block ?_ | (show opsA _ _ _ _ _ _ _; first | (refine O_split rfl rfl (fun h => ?_) (fun h => ?_) <;> try (exfalso; omega)) | refine O_ev WideF.wide rfl (Ev_pure rfl) rfl rfl ?_ | (show opsA _ _ _ _ (⟨_, .load _ _, _, _, _, _⟩ :: _) _ _; first | refine O_ev WideF.wide rfl (Ev_loadB1 (i := 0) rfl rfl rfl) rfl rfl ?_ | refine O_ev WideF.wide rfl (Ev_loadB1 (i := 1) rfl rfl rfl) rfl rfl ?_) | (show opsA _ _ _ _ (⟨_, .call _, _, _, _, _⟩ :: _) _ _; refine O_ev WideF.wide rfl (Ev_slen rfl) rfl rfl ?_) | (show opsA _ _ _ _ (⟨_, .binOp _ _ _ _ _, _, _, _, _⟩ :: _) _ _; refine O_ev WideF.wide rfl (Ev_add rfl rfl (wi64 (by omega))) rfl rfl ?_) | (show opsA _ _ _ _ (⟨_, .index _ _ _, _, _, _, _⟩ :: _) _ _; refine O_ev WideF.wide rfl (Ev_sindex rfl rfl (by omega) (by omega)) rfl rfl ?_) | (show opsA _ _ _ _ (⟨_, .store _ _ _, _, _, _, _⟩ :: _) _ _; refine O_ef rfl (Ef_store1 WideF.wide rfl rfl rfl rfl rfl ?_))) | (show wpA _ _ _ (.cond _ _ _) _ _ _ _; refine A_iftrue rfl ?_))
      all_goals first
        | (exfalso; omega)
        | (exfalso; contradiction)
        | exact Shift.to ⟨_, by omega, q + 1, _, _, _, rfl, by omega, by omega, fun j c' h3 h4 h5 => (if h9 : j = q then (by subst h9; rw [hu1] at h5; cases h5; exact hsp) else hall j c' h3 (by omega) h5), rfl⟩ ⟨rfl, rfl, rfl, ⟨rfl, rfl, rfl, trivial⟩, Own.subi [0, 1, 2] (by decide) rfl rfl⟩
        | trace_state
  · obtain rfl : q = l.length := by omega
    have htw : scn l p = ⟨[46], [], l.length⟩ := by
      unfold scn
      rw [tw_len hpq hql hall (fun c' h9 => by simp at h9)]
      rw [show p + (l.length - p) = l.length by omega]
      exact tokAt_end rfl
    rw [htw]
    repeat' (first | refine O_nil ?_ | refine A_seq ?_ | refine A_region ?_ | refine A_ret ?_ | (show opsA _ _ _ _ _ _ _; first | (refine O_split rfl rfl (fun h => ?_) (fun h => ?_) <;> try (exfalso; omega)) | refine O_ev WideF.wide rfl (Ev_pure rfl) rfl rfl ?_ | (show opsA _ _ _ _ (⟨_, .load _ _, _, _, _, _⟩ :: _) _ _; first | refine O_ev WideF.wide rfl (Ev_loadB1 (i := 0) rfl rfl rfl) rfl rfl ?_ | refine O_ev WideF.wide rfl (Ev_loadB1 (i := 1) rfl rfl rfl) rfl rfl ?_) | (show opsA _ _ _ _ (⟨_, .call _, _, _, _, _⟩ :: _) _ _; refine O_ev WideF.wide rfl (Ev_slen rfl) rfl rfl ?_) | (show opsA _ _ _ _ (⟨_, .build _ _, _, _, _, _⟩ :: _) _ _; refine O_ev WideF.wide rfl (Ev_build (vs := [(_, _), (_, _), (_, _)]) ⟨rfl, rfl, rfl, rfl, rfl, rfl, trivial⟩ rfl) rfl rfl ?_) | (show opsA _ _ _ _ (⟨_, .store _ _ _, _, _, _, _⟩ :: _) _ _; refine O_f2 (O_ef rfl (Ef_storew WideF.wide rfl rfl rfl rfl rfl ?_))) | refine O_skip WideF.wide rfl rfl rfl ?_) | (show wpA _ _ _ (.exit _) _ _ _ _; refine A_exit rfl ?_) | (show wpA _ _ _ (.cond _ _ _) _ _ _ _; first | (refine A_if rfl (fun h => ?_) (fun h => ?_) <;> try (exfalso; omega)) | refine A_iffalse rfl ?_))
    all_goals first
      | (exfalso; omega)
      | exact End_e (RetC rfl rfl (i := 2) rfl rfl) ⟨rfl, rfl⟩
      | exact End_e (RetC rfl rfl (i := 1) rfl rfl) ⟨rfl, rfl⟩
      | exact End_e (RetC rfl rfl (i := 0) rfl rfl) ⟨rfl, rfl⟩
      | trace_state
end Go.Proofs.YtnoadopmeoohmaaGreatDoor
