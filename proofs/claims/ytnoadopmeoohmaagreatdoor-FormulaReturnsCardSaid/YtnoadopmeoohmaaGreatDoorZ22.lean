import Derived.Test.YtnoadopmeoohmaaGreatDoorZ18
/-
  Values of expressions as data, and what is kept of them (plain Lean).
  operate, condition, values, lazy. Printed by genF23.py.
-/
namespace Go.Proofs.YtnoadopmeoohmaaGreatDoor
open Go
set_option linter.unusedVariables false
set_option linter.unusedSimpArgs false
section
def ifS : List UInt8 := [105, 102]
noncomputable def evT (env : List Bnd) (op num : Int) (text : List UInt8) (rs : List (Val × Int)) : Val × Int :=
  if op = 1 ∨ op = 3 then (⟨op, num, []⟩, 0)
  else if op = 2 then (txtV text, 0)
  else if op = 4 then (match env.find? (fun b => decide (b.name = text)) with | none => (zV, 30) | some b => (b.val, 0))
  else if op = 6 ∨ op = 7 ∨ (op = 5 ∧ text = ifS) then lzyV op rs
  else if (valL rs).2 ≠ 0 then (zV, (valL rs).2)
  else if op = 5 then fcall text (valL rs).1
  else oprV op (valL rs).1
mutual
noncomputable def evE (env : List Bnd) : Nd → Val × Int
  | .mk op num text args => evT env op num text (evR env args)
noncomputable def evR (env : List Bnd) : List Nd → List (Val × Int)
  | [] => []
  | x :: l => evE env x :: evR env l
end
theorem evR_map (env : List Bnd) : ∀ l : List Nd, evR env l = l.map (evE env)
  | [] => by rw [evR]; rfl
  | x :: l => by rw [evR, evR_map env l]; rfl
theorem evE_eq (env : List Bnd) (x : Nd) : evE env x = evT env x.op x.num x.text (x.args.map (evE env)) := by
  obtain ⟨op, num, text, args⟩ := x
  rw [evE, evR_map]
  rfl
mutual
def okN : Nd → Prop
  | .mk op num text args => chkT op num text args.length = 0 ∧ okL args
def okL : List Nd → Prop
  | [] => True
  | x :: l => okN x ∧ okL l
end
theorem okN_eq (x : Nd) : okN x ↔ chkN x = 0 ∧ okL x.args := by
  obtain ⟨op, num, text, args⟩ := x
  rw [okN]
  rfl
theorem okL_all : ∀ (l : List Nd), okL l ↔ ∀ x ∈ l, okN x
  | [] => by rw [okL]; simp
  | x :: l => by rw [okL, okL_all l]; simp
mutual
theorem vis_ok : ∀ (x : Nd) (v lv : Int), (vis x v lv).1 = 0 → okN x
  | .mk op num text args, v, lv, h => by
    rw [vis] at h
    rw [okN]
    split at h
    · exact absurd (show (9 : Int) = 0 from h) (by decide)
    · split at h
      · exact absurd (show (17 : Int) = 0 from h) (by decide)
      · split at h
        · rename_i hc; exact absurd h hc
        · rename_i hc; exact ⟨Decidable.not_not.1 hc, visL_ok args _ _ h⟩
theorem visL_ok : ∀ (l : List Nd) (v lv : Int), (visL l v lv).1 = 0 → okL l
  | [], v, lv, _ => by rw [okL]; trivial
  | x :: l, v, lv, h => by
    rw [visL] at h
    rw [okL]
    split at h
    · rename_i hx; exact ⟨vis_ok x v lv hx, visL_ok l _ _ h⟩
    · rename_i hx; exact absurd h hx
end
theorem chkE_ok {x : Nd} (h : chkE x = 0) : okN x := vis_ok x 0 1 h
/-- what is known of a value -/
def VOk (v : Val) : Prop := I64 v.num ∧ v.text.length ≤ 1000000000
def EnvV (env : List Bnd) : Prop := ∀ b ∈ env, VOk b.val
theorem vok_z : VOk zV := ⟨⟨by decide, by decide⟩, by decide⟩
theorem vok_b (b : Bool) : VOk (booV b) := by cases b <;> exact ⟨⟨by decide, by decide⟩, by decide⟩
theorem vok_num {n : Int} (h : I64 n) : VOk (numV n) := ⟨h, by simp [numV]⟩
theorem vok_chkN (n : Int) : VOk (chkV (numV n)).1 := by
  unfold chkV
  split
  · exact vok_z
  · rename_i h
    split
    · exact vok_z
    · have h' : ¬ (n < -1099511627776 ∨ 1099511627776 < n) := fun h2 => h ⟨rfl, h2⟩
      exact ⟨⟨by show _ ≤ n; omega, by show n < _; omega⟩, by simp [numV]⟩
theorem vok_chkT (s : List UInt8) : VOk (chkV (txtV s)).1 := by
  unfold chkV
  split
  · exact vok_z
  · split
    · exact vok_z
    · rename_i h
      have h' : ¬ 1024 < s.length := fun h2 => h ⟨rfl, h2⟩
      exact ⟨⟨(by show (-9223372036854775808 : Int) ≤ 0; decide), (by show (0 : Int) < 9223372036854775808; decide)⟩, by show s.length ≤ _; omega⟩
theorem w64_I (n : Int) : I64 (w64 n) := by
  unfold w64 IntKind.wrap
  constructor <;> (simp [IntKind.bits, IntKind.signed]; try omega)
theorem digR_b (s : List UInt8) : 0 ≤ (digR s).1 ∧ (digR s).1 ≤ 1099511627776 := by
  unfold digR
  split
  · exact ⟨by decide, by decide⟩
  · split
    · exact ⟨by decide, by decide⟩
    · rename_i h; exact ⟨by dsimp only; omega, by dsimp only; omega⟩
theorem vok_ofN (k : Int) (l : List Val) (n : Int) : VOk (ofV k l (numV n)).1 := by
  unfold ofV
  split
  · exact vok_chkN _
  · exact vok_z
theorem vok_ofT (k : Int) (l : List Val) (s : List UInt8) : VOk (ofV k l (txtV s)).1 := by
  unfold ofV
  split
  · exact vok_chkT _
  · exact vok_z
theorem vok_toNum (v : Val) : VOk (toNum v).1 := by
  unfold toNum
  have hd := digR_b (Lib.trimPrefix v.text [45])
  split
  · exact vok_z
  · split
    · exact vok_z
    · refine vok_num ?_
      split
      · exact w64_I _
      · exact ⟨by omega, by omega⟩
theorem vok_fcall (s : List UInt8) (l : List Val) : VOk (fcall s l).1 := by
  unfold fcall
  repeat' split
  all_goals first | exact vok_ofN _ _ _ | exact vok_ofT _ _ _ | exact vok_chkT _ | exact vok_toNum _ | exact vok_z
theorem vok_cal (op a b : Int) : VOk (calV op a b).1 := by
  unfold calV
  repeat' split
  all_goals first | exact vok_chkN _ | exact vok_z
theorem vok_cmp (op : Int) (a b : Val) : VOk (cmpV op a b).1 := by
  unfold cmpV
  split
  · exact vok_z
  · exact vok_b _
theorem vok_opr (op : Int) (l : List Val) : VOk (oprV op l).1 := by
  unfold oprV
  repeat' split
  all_goals first | exact vok_chkN _ | exact vok_chkT _ | exact vok_cal _ _ _ | exact vok_cmp _ _ _ | exact vok_b _ | exact vok_z
theorem vok_get {rs : List (Val × Int)} (h : ∀ p ∈ rs, VOk p.1) (i : Nat) : VOk (rs.getD i (zV, 0)).1 := by
  by_cases hi : i < rs.length
  · have e : rs.getD i (zV, 0) = rs[i] := by simp [hi]
    rw [e]
    exact h _ (List.getElem_mem hi)
  · have e : rs.getD i (zV, 0) = (zV, 0) := by simp [Nat.le_of_not_lt hi]
    rw [e]
    exact vok_z
theorem vok_lzy (op : Int) {rs : List (Val × Int)} (h : ∀ p ∈ rs, VOk p.1) : VOk (lzyV op rs).1 := by
  unfold lzyV
  repeat' split
  all_goals first | exact vok_get h _ | exact vok_z | exact vok_b _
theorem chkT_num {op num : Int} {text : List UInt8} {n : Int} (h : chkT op num text n = 0) : 0 ≤ num ∧ num ≤ 1099511627776 := by
  unfold chkT at h
  split at h
  · exact absurd h (by decide)
  · split at h
    · exact absurd h (by decide)
    · rename_i h1 h2
      by_cases e1 : op = 1
      · rw [if_pos e1] at h
        split at h
        · exact absurd h (by decide)
        · omega
      · rw [if_neg e1] at h
        by_cases e3 : op = 3
        · rw [if_pos e3] at h
          split at h
          · exact absurd h (by decide)
          · omega
        · have : num = 0 := Decidable.byContradiction fun hn => h2 (.inl ⟨by omega, hn⟩)
          omega
theorem chkT_txt {op num : Int} {text : List UInt8} {n : Int} (h : chkT op num text n = 0) (h2 : op = 2) : text.length ≤ 1024 := by
  subst h2
  unfold chkT at h
  split at h
  · exact absurd h (by decide)
  · split at h
    · exact absurd h (by decide)
    · rw [if_neg (by decide), if_neg (by decide), if_pos rfl] at h
      split at h
      · exact absurd h (by decide)
      · split at h
        · exact absurd h (by decide)
        · split at h
          · exact absurd h (by decide)
          · omega
theorem chkT_args {op num : Int} {text : List UInt8} {n : Int} (h : chkT op num text n = 0) : 1 ≤ op ∧ op ≤ 21 ∧ (op ≠ 5 → n = arityN op) ∧ (op = 5 → ∃ lo hi, fnArg text = some (lo, hi) ∧ lo ≤ n ∧ n ≤ hi) := by
  unfold chkT at h
  split at h
  · exact absurd h (by decide)
  · rename_i h0
    split at h
    · exact absurd h (by decide)
    · rename_i h1
      refine ⟨by omega, by omega, fun h5 => Decidable.byContradiction fun hn => h1 (.inr (.inr ⟨h5, hn⟩)), fun h5 => ?_⟩
      subst h5
      rw [if_neg (by decide), if_neg (by decide), if_neg (by decide), if_neg (by decide), if_pos rfl] at h
      cases hf : fnArg text with
      | none => rw [hf] at h; exact absurd (show (30 : Int) = 0 from h) (by decide)
      | some p =>
        obtain ⟨lo, hi⟩ := p
        rw [hf] at h
        dsimp only at h
        split at h
        · exact absurd h (by decide)
        · exact ⟨lo, hi, rfl, by omega, by omega⟩
theorem vok_find {env : List Bnd} (he : EnvV env) {p : Bnd → Bool} {b : Bnd} (h : env.find? p = some b) : VOk b.val := he b (List.mem_of_find?_eq_some h)
mutual
theorem evE_ok {env : List Bnd} (he : EnvV env) : ∀ x : Nd, okN x → VOk (evE env x).1
  | .mk op num text args, h => by
    rw [okN] at h
    have hr := evR_ok he args h.2
    have hn := chkT_num h.1
    have ht := chkT_txt h.1
    rw [evE]
    unfold evT
    split
    · exact ⟨⟨by show _ ≤ num; omega, by show num < _; omega⟩, by simp⟩
    · split
      · rename_i h2
        exact ⟨⟨(by show (-9223372036854775808 : Int) ≤ 0; decide), (by show (0 : Int) < 9223372036854775808; decide)⟩, by show text.length ≤ _; have := ht h2; omega⟩
      · split
        · cases hf : env.find? (fun b => decide (b.name = text)) with
          | none => exact vok_z
          | some b => exact vok_find he hf
        · split
          · exact vok_lzy op hr
          · split
            · exact vok_z
            · split
              · exact vok_fcall _ _
              · exact vok_opr _ _
theorem evR_ok {env : List Bnd} (he : EnvV env) : ∀ l : List Nd, okL l → ∀ p ∈ evR env l, VOk p.1
  | [], _, p, hp => by rw [evR] at hp; cases hp
  | x :: l, h, p, hp => by
    rw [okL] at h
    rw [evR] at hp
    rcases List.mem_cons.1 hp with rfl | hp
    · exact evE_ok he x h.1
    · exact evR_ok he l h.2 p hp
end
theorem valL_err : ∀ (rs : List (Val × Int)), (valL rs).2 ≠ 0 → (valL rs).1 = []
  | [], h => absurd rfl h
  | p :: r, h => by
    simp only [valL] at h ⊢
    split
    · rfl
    · rename_i h1
      rw [if_neg h1] at h
      split
      · rfl
      · rename_i h2
        rw [if_neg h2] at h
        exact absurd rfl h
theorem valL_ok : ∀ (rs : List (Val × Int)), (valL rs).2 = 0 → (valL rs).1 = rs.map Prod.fst ∧ ∀ p ∈ rs, p.2 = 0
  | [], _ => ⟨rfl, fun p hp => by cases hp⟩
  | p :: r, h => by
    simp only [valL] at h ⊢
    by_cases h1 : p.2 ≠ 0
    · rw [if_pos h1] at h; exact absurd h h1
    · rw [if_neg h1] at h
      by_cases h2 : (valL r).2 ≠ 0
      · rw [if_pos h2] at h; exact absurd h h2
      · rw [if_neg h1, if_neg h2]
        have ih := valL_ok r (Decidable.not_not.1 h2)
        refine ⟨by rw [ih.1]; rfl, fun q hq => ?_⟩
        rcases List.mem_cons.1 hq with rfl | hq
        · exact Decidable.not_not.1 h1
        · exact ih.2 q hq
/-- values behind others -/
def preV (acc : List Val) (p : List Val × Int) : List Val × Int := if p.2 ≠ 0 then ([], p.2) else (acc ++ p.1, 0)
theorem preV_nil (rs : List (Val × Int)) : preV [] (valL rs) = valL rs := by
  unfold preV
  split
  · rename_i h
    rw [← valL_err rs h]
  · rename_i h
    have h' : (valL rs).2 = 0 := Decidable.not_not.1 h
    rw [List.nil_append, ← h']
theorem preV_cons (acc : List Val) (p : Val × Int) (r : List (Val × Int)) : preV acc (valL (p :: r)) = if p.2 ≠ 0 then ([], p.2) else preV (acc ++ [p.1]) (valL r) := by
  by_cases h1 : p.2 ≠ 0
  · have e : valL (p :: r) = ([], p.2) := by simp only [valL]; rw [if_pos h1]
    rw [e, if_pos h1]
    exact if_pos h1
  · rw [if_neg h1]
    by_cases h2 : (valL r).2 ≠ 0
    · have e : valL (p :: r) = ([], (valL r).2) := by simp only [valL]; rw [if_neg h1, if_pos h2]
      rw [e]
      exact (if_pos h2).trans (if_pos h2).symm
    · have e : valL (p :: r) = (p.1 :: (valL r).1, 0) := by simp only [valL]; rw [if_neg h1, if_neg h2]
      rw [e]
      refine (if_neg (by simp)).trans ((if_neg h2).trans ?_).symm
      rw [List.append_assoc]
      rfl
end
attribute [local irreducible] wpA opsA drJ drQ drE Ef Ev Shift Fn
set_option maxRecDepth 100000 in
set_option maxHeartbeats 8000000 in
theorem operate1_fn {H : Hp} {op : Int} {a : Option Addr} {cp : Nat} {x : Val} (hx : HRow H a 1 cp 3 [vlrow x]) (hop : op = 8 ∨ op = 21) : Fn Tryz.prog 97 [.int .i64 op, .slice a 1 cp] H [] fun v _ I => v = rVE (oprV op [x]) ∧ I = [] := by
  have kk := kinds_fn (H := H) (l := [x]) (k := 1) hx (by omega)
  obtain ⟨b, o, cs, rfl, hcs, -, hc⟩ := hx.at 0 (by omega)
  simp at hcs
  subst hcs
  obtain ⟨k, n, s⟩ := x
  unfold vlrow at hc
  dsimp only at hc
  rcases hop with rfl | rfl
  · have e : oprV 8 [⟨k, n, s⟩] = if k ≠ 3 then (zV, 3) else (booV (decide (n = 0)), 0) := rfl
    rw [e]
    by_cases h3 : k = 3
    · rw [if_neg (fun h => h h3)]
      refine Fn_of _ _ Tryz.func97 rfl Tryz.ntmps97 rfl fun c => ?_
      repeat' (first | (refine O_ev WideF.wide rfl (Ev_loadH1 rfl (hc 0 _ rfl)) rfl rfl ?_) | (refine O_ev WideF.wide rfl (Ev_loadH1 rfl (hc 1 _ rfl)) rfl rfl ?_) | (refine O_ef rfl (Ef_call (I := []) WideF.wide (boolean_fn (b := _)) ⟨rfl, trivial⟩ rfl ?_); rintro v1 H1 I1 hle1 ⟨rfl, rfl⟩) | refine O_nil ?_ | refine A_seq ?_ | refine A_region ?_ | refine A_skip ?_ | refine A_ret ?_ | refine A_block ?_ | (show opsA _ _ _ _ _ _ _; first | refine O_ev WideF.wide rfl (Ev_pure rfl) rfl rfl ?_ | (show opsA _ _ _ _ (⟨_, .indexAddr _ _ _, _, _, _, _⟩ :: _) _ _; refine O_ev WideF.wide rfl (Ev_indexAddr rfl rfl (by omega) (by omega)) rfl rfl ?_) | (show opsA _ _ _ _ (⟨_, .fieldAddr _ _ _, _, _, _, _⟩ :: _) _ _; refine O_ev WideF.wide rfl (Ev_fieldAddr rfl rfl rfl) rfl rfl ?_) | (show opsA _ _ _ _ (⟨_, .alloc _, _, _, _, _⟩ :: _) _ _; (refine O_ef rfl (Ef_alloc WideF.wide rfl ?_); intro b)) | (show opsA _ _ _ _ (⟨_, .store _ _ _, _, _, _, _⟩ :: _) _ _; refine O_ef rfl (Ef_storew WideF.wide rfl rfl rfl rfl rfl ?_))) | (show wpA _ _ _ (.cond _ _ _) _ _ _ _; (refine A_if rfl (fun h => ?_) (fun h => ?_) <;> try (exfalso; omega))))
      all_goals first
        | (exfalso; omega)
        | (exfalso; contradiction)
        | (exfalso; exact absurd trivial (by assumption))
        | (exfalso; exact absurd rfl (by assumption))
        | exact End_e (RetC2 (i := 0) rfl rfl rfl rfl rfl) ⟨rfl, rfl⟩
        | trace_state
    · rw [if_pos h3]
      refine Fn_of _ _ Tryz.func97 rfl Tryz.ntmps97 rfl fun c => ?_
      repeat' (first | (refine O_ev WideF.wide rfl (Ev_loadH1 rfl (hc 0 _ rfl)) rfl rfl ?_) | refine O_nil ?_ | refine A_seq ?_ | refine A_region ?_ | refine A_ret ?_ | refine A_block ?_ | (show opsA _ _ _ _ _ _ _; first | refine O_ev WideF.wide rfl (Ev_pure rfl) rfl rfl ?_ | (show opsA _ _ _ _ (⟨_, .indexAddr _ _ _, _, _, _, _⟩ :: _) _ _; refine O_ev WideF.wide rfl (Ev_indexAddr rfl rfl (by omega) (by omega)) rfl rfl ?_) | (show opsA _ _ _ _ (⟨_, .fieldAddr _ _ _, _, _, _, _⟩ :: _) _ _; refine O_ev WideF.wide rfl (Ev_fieldAddr rfl rfl rfl) rfl rfl ?_) | (show opsA _ _ _ _ (⟨_, .build _ _, _, _, _, _⟩ :: _) _ _; refine O_ev WideF.wide rfl (Ev_build (vs := []) trivial rfl) rfl rfl ?_) | (show opsA _ _ _ _ (⟨_, .alloc _, _, _, _, _⟩ :: _) _ _; (refine O_ef rfl (Ef_alloc WideF.wide rfl ?_); intro b)) | (show opsA _ _ _ _ (⟨_, .store _ _ _, _, _, _, _⟩ :: _) _ _; refine O_ef rfl (Ef_storew WideF.wide rfl rfl rfl rfl rfl ?_))) | (show wpA _ _ _ (.cond _ _ _) _ _ _ _; (refine A_if rfl (fun h => ?_) (fun h => ?_) <;> try (exfalso; omega))))
      all_goals first
        | (exfalso; omega)
        | (exfalso; contradiction)
        | (exfalso; exact absurd trivial (by assumption))
        | (exfalso; exact absurd rfl (by assumption))
        | exact End_e (RetC2 (i := 0) rfl rfl rfl rfl rfl) ⟨rfl, rfl⟩
        | trace_state
  · have e : oprV 21 [⟨k, n, s⟩] = if ¬ allK [⟨k, n, s⟩] 1 = true then (zV, 3) else chkV (numV (w64 (0 - n))) := rfl
    rw [e]
    cases hk : allK [(⟨k, n, s⟩ : Val)] 1 <;> rw [hk] at kk
    · rw [if_pos (by decide)]
      refine Fn_of _ _ Tryz.func97 rfl Tryz.ntmps97 rfl fun c => ?_
      repeat' (first | (refine O_ef rfl (Ef_call (I := []) WideF.wide kk ⟨rfl, rfl, trivial⟩ rfl ?_); rintro v3 H3 I3 hle3 ⟨rfl, rfl⟩) | refine O_nil ?_ | refine A_seq ?_ | refine A_region ?_ | refine A_ret ?_ | refine A_block ?_ | (show opsA _ _ _ _ _ _ _; first | refine O_ev WideF.wide rfl (Ev_pure rfl) rfl rfl ?_ | (show opsA _ _ _ _ (⟨_, .unOp _ _ _, _, _, _, _⟩ :: _) _ _; refine O_ev WideF.wide rfl (Ev_notb rfl) rfl rfl ?_) | (show opsA _ _ _ _ (⟨_, .build _ _, _, _, _, _⟩ :: _) _ _; refine O_ev WideF.wide rfl (Ev_build (vs := []) trivial rfl) rfl rfl ?_) | (show opsA _ _ _ _ (⟨_, .alloc _, _, _, _, _⟩ :: _) _ _; (refine O_ef rfl (Ef_alloc WideF.wide rfl ?_); intro b)) | (show opsA _ _ _ _ (⟨_, .store _ _ _, _, _, _, _⟩ :: _) _ _; refine O_ef rfl (Ef_storew WideF.wide rfl rfl rfl rfl rfl ?_))) | (show wpA _ _ _ (.cond _ _ _) _ _ _ _; first | (refine A_if rfl (fun h => ?_) (fun h => ?_) <;> try (exfalso; omega)) | refine A_iftrue rfl ?_))
      all_goals first
        | (exfalso; omega)
        | (exfalso; contradiction)
        | (exfalso; exact absurd trivial (by assumption))
        | (exfalso; exact absurd rfl (by assumption))
        | exact End_e (RetC2 (i := 0) rfl rfl rfl rfl rfl) ⟨rfl, rfl⟩
        | trace_state
    · rw [if_neg (by decide)]
      refine Fn_of _ _ Tryz.func97 rfl Tryz.ntmps97 rfl fun c => ?_
      repeat' (first | (refine O_ef rfl (Ef_call (I := []) WideF.wide kk ⟨rfl, rfl, trivial⟩ rfl ?_); rintro v3 H3 I3 hle3 ⟨rfl, rfl⟩) | (refine O_ev WideF.wide rfl (Ev_loadH1 rfl (hle3 _ _ _ (hc 1 _ rfl))) rfl rfl ?_) | (refine O_ev WideF.wide rfl (Ev_neg rfl rfl) rfl rfl ?_) | (refine O_ef rfl (Ef_call (I := []) WideF.wide (number_fn (n := _)) ⟨rfl, trivial⟩ rfl ?_); rintro v1 H1 I1 hle1 ⟨rfl, rfl⟩) | (refine O_ef rfl (Ef_call (I := []) WideF.wide (checked_fn (x := numV _) (by simp [numV])) ⟨rfl, trivial⟩ rfl ?_); rintro v2 H2 I2 hle2 ⟨rfl, rfl⟩) | refine O_nil ?_ | refine A_seq ?_ | refine A_region ?_ | refine A_ret ?_ | refine A_block ?_ | (show opsA _ _ _ _ _ _ _; first | refine O_ev WideF.wide rfl (Ev_pure rfl) rfl rfl ?_ | (show opsA _ _ _ _ (⟨_, .indexAddr _ _ _, _, _, _, _⟩ :: _) _ _; refine O_ev WideF.wide rfl (Ev_indexAddr rfl rfl (by omega) (by omega)) rfl rfl ?_) | (show opsA _ _ _ _ (⟨_, .fieldAddr _ _ _, _, _, _, _⟩ :: _) _ _; refine O_ev WideF.wide rfl (Ev_fieldAddr rfl rfl rfl) rfl rfl ?_) | (show opsA _ _ _ _ (⟨_, .unOp _ _ _, _, _, _, _⟩ :: _) _ _; refine O_ev WideF.wide rfl (Ev_notb rfl) rfl rfl ?_) | (show opsA _ _ _ _ (⟨_, .alloc _, _, _, _, _⟩ :: _) _ _; (refine O_ef rfl (Ef_alloc WideF.wide rfl ?_); intro b)) | (show opsA _ _ _ _ (⟨_, .store _ _ _, _, _, _, _⟩ :: _) _ _; refine O_ef rfl (Ef_storew WideF.wide rfl rfl rfl rfl rfl ?_))) | (show wpA _ _ _ (.cond _ _ _) _ _ _ _; first | (refine A_if rfl (fun h => ?_) (fun h => ?_) <;> try (exfalso; omega)) | refine A_iffalse rfl ?_))
      all_goals first
        | (exfalso; omega)
        | (exfalso; contradiction)
        | (exfalso; exact absurd trivial (by assumption))
        | (exfalso; exact absurd rfl (by assumption))
        | exact End_e (RetC2 (i := 0) rfl rfl rfl rfl rfl) ⟨rfl, rfl⟩
        | trace_state
set_option maxRecDepth 100000 in
set_option maxHeartbeats 16000000 in
theorem operate2_fn {H : Hp} {op : Int} {a : Option Addr} {cp : Nat} {x y : Val} (hx : HRow H a 2 cp 3 [vlrow x, vlrow y]) (hop : 9 ≤ op ∧ op ≤ 20) (hvx : VOk x) (hvy : VOk y) : Fn Tryz.prog 97 [.int .i64 op, .slice a 2 cp] H [] fun v _ I => v = rVE (oprV op [x, y]) ∧ I = [] := by
  have k1 := kinds_fn (H := H) (l := [x, y]) (k := 1) hx (by omega)
  have k2 := kinds_fn (H := H) (l := [x, y]) (k := 2) hx (by omega)
  have kcmp := fun Hx => compare_fn (H := Hx) (op := op) (x := x) (y := y)
  have kcal := fun Hx => calculate_fn (H := Hx) (op := op) hvx.1 hvy.1
  have hlx := hvx.2
  have hly := hvy.2
  have hv0 : v0 [x, y] = x := rfl
  have hv1 : v1 [x, y] = y := rfl
  obtain ⟨b, o, cs, rfl, hcs, -, hc⟩ := hx.at 0 (by omega)
  obtain ⟨b', o', cs', heq, hcs', -, hd⟩ := hx.at 1 (by omega)
  cases heq
  simp at hcs hcs'
  subst hcs hcs'
  by_cases h17 : op = 17
  · subst h17
    have e : oprV 17 [x, y] = if allK [x, y] 2 then chkV (txtV (x.text ++ y.text)) else (zV, 3) := rfl
    rw [e]
    unfold vlrow at hc hd
    cases hk : allK [x, y] 2 <;> rw [hk] at k2
    · simp only [Bool.false_eq_true, if_false]
      refine Fn_of _ _ Tryz.func97 rfl Tryz.ntmps97 rfl fun c => ?_
      repeat' (first | (refine O_ef rfl (Ef_call (I := []) WideF.wide k2 ⟨rfl, rfl, trivial⟩ rfl ?_); rintro v3 H3 I3 hle3 ⟨rfl, rfl⟩) | refine O_nil ?_ | refine A_seq ?_ | refine A_region ?_ | refine A_ret ?_ | refine A_block ?_ | (show opsA _ _ _ _ _ _ _; first | refine O_ev WideF.wide rfl (Ev_pure rfl) rfl rfl ?_ | (show opsA _ _ _ _ (⟨_, .unOp _ _ _, _, _, _, _⟩ :: _) _ _; refine O_ev WideF.wide rfl (Ev_notb rfl) rfl rfl ?_) | (show opsA _ _ _ _ (⟨_, .build _ _, _, _, _, _⟩ :: _) _ _; refine O_ev WideF.wide rfl (Ev_build (vs := []) trivial rfl) rfl rfl ?_) | (show opsA _ _ _ _ (⟨_, .alloc _, _, _, _, _⟩ :: _) _ _; (refine O_ef rfl (Ef_alloc WideF.wide rfl ?_); intro b)) | (show opsA _ _ _ _ (⟨_, .store _ _ _, _, _, _, _⟩ :: _) _ _; refine O_ef rfl (Ef_storew WideF.wide rfl rfl rfl rfl rfl ?_))) | (show wpA _ _ _ (.cond _ _ _) _ _ _ _; first | (refine A_if rfl (fun h => ?_) (fun h => ?_) <;> try (exfalso; omega)) | refine A_iftrue rfl ?_))
      all_goals first
        | (exfalso; omega)
        | (exfalso; contradiction)
        | (exfalso; exact absurd trivial (by assumption))
        | (exfalso; exact absurd rfl (by assumption))
        | exact End_e (RetC2 (i := 0) rfl rfl rfl rfl rfl) ⟨rfl, rfl⟩
        | trace_state
    · simp only [if_true]
      refine Fn_of _ _ Tryz.func97 rfl Tryz.ntmps97 rfl fun c => ?_
      repeat' (first | (refine O_ef rfl (Ef_call (I := []) WideF.wide k2 ⟨rfl, rfl, trivial⟩ rfl ?_); rintro v3 H3 I3 hle3 ⟨rfl, rfl⟩) | (show wpA _ _ _ (.region 8 _ _) _ _ _ _; (refine A_drawM WideF.wide (.q 0 (.q 1 (.q 2 (.q 3 (.q 4 (.q 5 (.q 6 (.q 7 (.q 8 (.e 9 (.e 10 (.q 11 (.q 12 (.done [13, 14])))))))))))))) [13, 14] (by decide +kernel) ?_)) | (refine D_ev rfl (Ev_loadH1 rfl (hle3 _ _ _ (hc 2 _ rfl))) rfl rfl ?_) | (refine D_ev rfl (Ev_loadH1 rfl (hle3 _ _ _ (hd 2 _ rfl))) rfl rfl ?_) | (refine D_ev rfl (Ev_scat rfl rfl (by omega)) rfl rfl ?_) | (refine E_ef rfl (Ef_call (I := []) WideF.wide (text_fn (s := x.text ++ y.text)) ⟨rfl, trivial⟩ rfl ?_); rintro v4 H4 I4 hle4 ⟨rfl, rfl⟩; refine ⟨⟨hle4, rfl⟩, ?_⟩) | (refine E_ef rfl (Ef_call (I := []) WideF.wide (checked_fn (x := txtV (x.text ++ y.text)) (by show (x.text ++ y.text).length < _; rw [List.length_append]; omega)) ⟨rfl, trivial⟩ rfl ?_); rintro v5 H5 I5 hle5 ⟨rfl, rfl⟩; refine ⟨⟨hle5, rfl⟩, ?_⟩) | refine O_nil ?_ | refine A_seq ?_ | refine A_region ?_ | refine A_skip ?_ | refine A_ret ?_ | refine A_block ?_ | (show drJ _ _ _ _ _ _ _ (.q _ _) _; refine D_q rfl ?_) | (show drJ _ _ _ _ _ _ _ (.e _ _) _; refine D_e rfl ?_) | (show drJ _ _ _ _ _ _ _ (.done _) _; refine D_done ?_; simp only [List.cons_append, List.nil_append]) | (show drQ _ _ _ _ _ _; first | refine D_ev rfl (Ev_pure rfl) rfl rfl ?_ | (show drQ _ _ _ ⟨_, .indexAddr _ _ _, _, _, _, _⟩ _ _; refine D_ev rfl (Ev_indexAddr rfl rfl (by omega) (by omega)) rfl rfl ?_) | (show drQ _ _ _ ⟨_, .fieldAddr _ _ _, _, _, _, _⟩ _ _; refine D_ev rfl (Ev_fieldAddr rfl rfl rfl) rfl rfl ?_)) | (show opsA _ _ _ _ _ _ _; first | refine O_ev WideF.wide rfl (Ev_pure rfl) rfl rfl ?_ | (show opsA _ _ _ _ (⟨_, .unOp _ _ _, _, _, _, _⟩ :: _) _ _; refine O_ev WideF.wide rfl (Ev_notb rfl) rfl rfl ?_) | (show opsA _ _ _ _ (⟨_, .alloc _, _, _, _, _⟩ :: _) _ _; (refine O_ef rfl (Ef_alloc WideF.wide rfl ?_); intro b)) | (show opsA _ _ _ _ (⟨_, .store _ _ _, _, _, _, _⟩ :: _) _ _; refine O_ef rfl (Ef_storew WideF.wide rfl rfl rfl rfl rfl ?_))) | (show wpA _ _ _ (.cond _ _ _) _ _ _ _; first | (refine A_if rfl (fun h => ?_) (fun h => ?_) <;> try (exfalso; omega)) | refine A_iffalse rfl ?_))
      all_goals first
        | (exfalso; omega)
        | (exfalso; contradiction)
        | (exfalso; exact absurd trivial (by assumption))
        | (exfalso; exact absurd rfl (by assumption))
        | exact End_e (RetC2 (i := 0) rfl rfl rfl rfl rfl) ⟨rfl, rfl⟩
        | trace_state
  by_cases h14 : op ≤ 14
  · have e : oprV op [x, y] = cmpV op x y := by unfold oprV; rw [if_neg (by omega), if_neg h17, if_pos h14, hv0, hv1]
    rw [e]
    refine Fn_of _ _ Tryz.func97 rfl Tryz.ntmps97 rfl fun c => ?_
    repeat' (first | (show wpA _ _ _ (.region 10 _ _) _ _ _ _; (refine A_drawM WideF.wide (.q 0 (.q 1 (.q 2 (.q 3 (.q 4 (.q 5 (.q 6 (.e 7 (.q 8 (.q 9 (.done [10, 11]))))))))))) [10, 11] (by decide +kernel) ?_)) | (refine D_ev rfl (Ev_loadH rfl hc rfl) rfl rfl ?_) | (refine D_ev rfl (Ev_loadH rfl hd rfl) rfl rfl ?_) | (refine E_ef rfl (Ef_call (I := []) WideF.wide (kcmp _) ⟨rfl, rfl, rfl, trivial⟩ rfl ?_); rintro v4 H4 I4 hle4 ⟨rfl, rfl⟩; refine ⟨⟨hle4, rfl⟩, ?_⟩) | refine O_nil ?_ | refine A_seq ?_ | refine A_region ?_ | refine A_ret ?_ | refine A_block ?_ | (show drJ _ _ _ _ _ _ _ (.q _ _) _; refine D_q rfl ?_) | (show drJ _ _ _ _ _ _ _ (.e _ _) _; refine D_e rfl ?_) | (show drJ _ _ _ _ _ _ _ (.done _) _; refine D_done ?_; simp only [List.cons_append, List.nil_append]) | (show drQ _ _ _ _ _ _; first | refine D_ev rfl (Ev_pure rfl) rfl rfl ?_ | (show drQ _ _ _ ⟨_, .indexAddr _ _ _, _, _, _, _⟩ _ _; refine D_ev rfl (Ev_indexAddr rfl rfl (by omega) (by omega)) rfl rfl ?_)) | (show opsA _ _ _ _ _ _ _; first | refine O_ev WideF.wide rfl (Ev_pure rfl) rfl rfl ?_ | (show opsA _ _ _ _ (⟨_, .alloc _, _, _, _, _⟩ :: _) _ _; (refine O_ef rfl (Ef_alloc WideF.wide rfl ?_); intro b)) | (show opsA _ _ _ _ (⟨_, .store _ _ _, _, _, _, _⟩ :: _) _ _; refine O_ef rfl (Ef_storew WideF.wide rfl rfl rfl rfl rfl ?_))) | (show wpA _ _ _ (.cond _ _ _) _ _ _ _; (refine A_if rfl (fun h => ?_) (fun h => ?_) <;> try (exfalso; omega))))
    all_goals first
      | (exfalso; omega)
      | (exfalso; contradiction)
      | (exfalso; exact absurd trivial (by assumption))
      | (exfalso; exact absurd rfl (by assumption))
      | exact End_e (RetC2 (i := 0) rfl rfl rfl rfl rfl) ⟨rfl, rfl⟩
      | trace_state
  · have e : oprV op [x, y] = if ¬ allK [x, y] 1 = true then (zV, 3) else calV op x.num y.num := by
      unfold oprV
      rw [if_neg (by omega), if_neg h17, if_neg h14]
      split
      · rfl
      · rw [if_neg (by omega), hv0, hv1]
    rw [e]
    unfold vlrow at hc hd
    cases hk : allK [x, y] 1 <;> rw [hk] at k1
    · rw [if_pos (by decide)]
      refine Fn_of _ _ Tryz.func97 rfl Tryz.ntmps97 rfl fun c => ?_
      repeat' (first | (refine O_ef rfl (Ef_call (I := []) WideF.wide k1 ⟨rfl, rfl, trivial⟩ rfl ?_); rintro v3 H3 I3 hle3 ⟨rfl, rfl⟩) | refine O_nil ?_ | refine A_seq ?_ | refine A_region ?_ | refine A_ret ?_ | refine A_block ?_ | (show opsA _ _ _ _ _ _ _; first | refine O_ev WideF.wide rfl (Ev_pure rfl) rfl rfl ?_ | (show opsA _ _ _ _ (⟨_, .unOp _ _ _, _, _, _, _⟩ :: _) _ _; refine O_ev WideF.wide rfl (Ev_notb rfl) rfl rfl ?_) | (show opsA _ _ _ _ (⟨_, .build _ _, _, _, _, _⟩ :: _) _ _; refine O_ev WideF.wide rfl (Ev_build (vs := []) trivial rfl) rfl rfl ?_) | (show opsA _ _ _ _ (⟨_, .alloc _, _, _, _, _⟩ :: _) _ _; (refine O_ef rfl (Ef_alloc WideF.wide rfl ?_); intro b)) | (show opsA _ _ _ _ (⟨_, .store _ _ _, _, _, _, _⟩ :: _) _ _; refine O_ef rfl (Ef_storew WideF.wide rfl rfl rfl rfl rfl ?_))) | (show wpA _ _ _ (.cond _ _ _) _ _ _ _; first | (refine A_if rfl (fun h => ?_) (fun h => ?_) <;> try (exfalso; omega)) | refine A_iftrue rfl ?_))
      all_goals first
        | (exfalso; omega)
        | (exfalso; contradiction)
        | (exfalso; exact absurd trivial (by assumption))
        | (exfalso; exact absurd rfl (by assumption))
        | exact End_e (RetC2 (i := 0) rfl rfl rfl rfl rfl) ⟨rfl, rfl⟩
        | trace_state
    · rw [if_neg (by decide)]
      refine Fn_of _ _ Tryz.func97 rfl Tryz.ntmps97 rfl fun c => ?_
      repeat' (first | (refine O_ef rfl (Ef_call (I := []) WideF.wide k1 ⟨rfl, rfl, trivial⟩ rfl ?_); rintro v3 H3 I3 hle3 ⟨rfl, rfl⟩) | (show wpA _ _ _ (.region 15 _ _) _ _ _ _; (refine A_drawM WideF.wide (.q 0 (.q 1 (.q 2 (.q 3 (.q 4 (.q 5 (.q 6 (.q 7 (.q 8 (.e 9 (.q 10 (.q 11 (.done [12, 13]))))))))))))) [12, 13] (by decide +kernel) ?_)) | (refine D_ev rfl (Ev_loadH1 rfl (hle3 _ _ _ (hc 1 _ rfl))) rfl rfl ?_) | (refine D_ev rfl (Ev_loadH1 rfl (hle3 _ _ _ (hd 1 _ rfl))) rfl rfl ?_) | (refine E_ef rfl (Ef_call (I := []) WideF.wide (kcal _) ⟨rfl, rfl, rfl, trivial⟩ rfl ?_); rintro v4 H4 I4 hle4 ⟨rfl, rfl⟩; refine ⟨⟨hle4, rfl⟩, ?_⟩) | refine O_nil ?_ | refine A_seq ?_ | refine A_region ?_ | refine A_skip ?_ | refine A_ret ?_ | refine A_block ?_ | (show drJ _ _ _ _ _ _ _ (.q _ _) _; refine D_q rfl ?_) | (show drJ _ _ _ _ _ _ _ (.e _ _) _; refine D_e rfl ?_) | (show drJ _ _ _ _ _ _ _ (.done _) _; refine D_done ?_; simp only [List.cons_append, List.nil_append]) | (show drQ _ _ _ _ _ _; first | refine D_ev rfl (Ev_pure rfl) rfl rfl ?_ | (show drQ _ _ _ ⟨_, .indexAddr _ _ _, _, _, _, _⟩ _ _; refine D_ev rfl (Ev_indexAddr rfl rfl (by omega) (by omega)) rfl rfl ?_) | (show drQ _ _ _ ⟨_, .fieldAddr _ _ _, _, _, _, _⟩ _ _; refine D_ev rfl (Ev_fieldAddr rfl rfl rfl) rfl rfl ?_)) | (show opsA _ _ _ _ _ _ _; first | refine O_ev WideF.wide rfl (Ev_pure rfl) rfl rfl ?_ | (show opsA _ _ _ _ (⟨_, .unOp _ _ _, _, _, _, _⟩ :: _) _ _; refine O_ev WideF.wide rfl (Ev_notb rfl) rfl rfl ?_) | (show opsA _ _ _ _ (⟨_, .alloc _, _, _, _, _⟩ :: _) _ _; (refine O_ef rfl (Ef_alloc WideF.wide rfl ?_); intro b)) | (show opsA _ _ _ _ (⟨_, .store _ _ _, _, _, _, _⟩ :: _) _ _; refine O_ef rfl (Ef_storew WideF.wide rfl rfl rfl rfl rfl ?_))) | (show wpA _ _ _ (.cond _ _ _) _ _ _ _; first | (refine A_if rfl (fun h => ?_) (fun h => ?_) <;> try (exfalso; omega)) | refine A_iffalse rfl ?_))
      all_goals first
        | (exfalso; omega)
        | (exfalso; contradiction)
        | (exfalso; exact absurd trivial (by assumption))
        | (exfalso; exact absurd rfl (by assumption))
        | exact End_e (RetC2 (i := 0) rfl rfl rfl rfl rfl) ⟨rfl, rfl⟩
        | trace_state
/-- the contract of eval at a node -/
def EvN (ea : Option Addr) (en ec : Nat) (env : List Bnd) (H : Hp) (y : Nd) : Prop := ∀ (H' : Hp) (cs : List Value), HLe H H' → NodeH H' cs y → Fn Tryz.prog 54 [.agg cs.toArray, .slice ea en ec] H' [] fun v _ I => v = rVE (evE env y) ∧ I = []
theorem EvN.mono {ea : Option Addr} {en ec : Nat} {env : List Bnd} {H H2 : Hp} {y : Nd} (h : EvN ea en ec env H y) (hl : HLe H H2) : EvN ea en ec env H2 y := fun H' cs hle hn => h H' cs (hl.trans hle) hn
set_option maxRecDepth 100000 in
set_option maxHeartbeats 8000000 in
theorem condition_fn {H : Hp} {cs : List Value} {x : Nd} {ea : Option Addr} {en ec : Nat} {env : List Bnd} (hx : NodeH H cs x) (ke : EvN ea en ec env H x) :
    Fn Tryz.prog 137 [.agg cs.toArray, .slice ea en ec] H [] fun v _ I => v = .tuple [.bool (cond1 (evE env x)).1, .int .i64 (cond1 (evE env x)).2].toArray ∧ I = [] := by
  have hone := hx.one
  have kv := fun H' hle => ke H' cs hle (hx.mono hle)
  obtain ⟨a, n, cp, rfl, hs⟩ := hx.cells
  obtain ⟨⟨⟨k, m, s⟩, e⟩, hp⟩ : ∃ p, p = evE env x := ⟨_, rfl⟩
  rw [← hp] at kv ⊢
  have e1 : cond1 (⟨k, m, s⟩, e) = (decide (m = 1), if e = 0 ∧ k ≠ 3 then 3 else e) := rfl
  rw [e1]
  by_cases h0 : e = 0
  all_goals by_cases h3 : k = 3
  all_goals
    simp only [h0, h3, ne_eq, not_true_eq_false, not_false_eq_true, and_true, and_false, true_and, false_and, if_true, if_false] at kv ⊢
    refine Fn_of _ _ Tryz.func137 rfl Tryz.ntmps137 rfl fun c => ?_
    repeat' (first | (refine O_ef rfl (Ef_boxa WideF.wide (cs := [.int .i64 x.op, .int .i64 x.num, sv x.text, .slice a n cp]) rfl rfl ?_); intro b9; refine O_freezeBox hone ?_; intro H1 hle1 hc) | (refine O_ev WideF.wide rfl (Ev_loadH rfl hc rfl) rfl rfl ?_) | (refine O_ef rfl (Ef_call (I := []) WideF.wide (kv _ hle1) ⟨rfl, rfl, trivial⟩ rfl ?_); rintro v3 H3 I3 hle3 ⟨rfl, rfl⟩; show opsA _ _ _ _ _ _ ⟨_, (_, .tuple [.agg [.int .i64 _, .int .i64 _, sv _].toArray, .int .i64 _].toArray) :: _, _, _, _, _⟩) | refine O_nil ?_ | refine A_seq ?_ | refine A_region ?_ | refine A_skip ?_ | refine A_ret ?_ | (show opsA _ _ _ _ _ _ _; first | (refine O_split rfl rfl (fun h => ?_) (fun h => ?_) <;> try (exfalso; omega)) | refine O_ev WideF.wide rfl (Ev_pure rfl) rfl rfl ?_ | (show opsA _ _ _ _ (⟨_, .load _ _, _, _, _, _⟩ :: _) _ _; refine O_ev WideF.wide rfl (Ev_loadB1 (i := 0) rfl rfl rfl) rfl rfl ?_) | (show opsA _ _ _ _ (⟨_, .fieldAddr _ _ _, _, _, _, _⟩ :: _) _ _; refine O_ev WideF.wide rfl (Ev_fieldAddr rfl rfl rfl) rfl rfl ?_) | (show opsA _ _ _ _ (⟨_, .alloc _, _, _, _, _⟩ :: _) _ _; (refine O_ef rfl (Ef_alloc WideF.wide rfl ?_); intro b)) | (show opsA _ _ _ _ (⟨_, .store _ _ _, _, _, _, _⟩ :: _) _ _; refine O_ef rfl (Ef_storew WideF.wide rfl rfl rfl rfl rfl ?_)) | refine O_skip WideF.wide rfl rfl rfl ?_) | (show wpA _ _ _ (.cond _ _ _) _ _ _ _; first | (refine A_if rfl (fun h => ?_) (fun h => ?_) <;> try (exfalso; omega)) | refine A_iffalse rfl ?_))
    all_goals first
      | (exfalso; omega)
      | (exfalso; contradiction)
      | (exfalso; exact absurd trivial (by assumption))
      | (exfalso; exact absurd rfl (by assumption))
      | exact End_e (Ret2 rfl rfl rfl) ⟨rfl, rfl⟩
      | trace_state
set_option maxRecDepth 100000 in
set_option maxHeartbeats 8000000 in
theorem values_fn {H : Hp} {a : Option Addr} {n cp : Nat} {l : List Nd} {ea : Option Addr} {en ec : Nat} {env : List Bnd} (hn : n ≤ 1000000) (hl : NodesS H a n cp l) (ke : ∀ y ∈ l, EvN ea en ec env H y) :
    Fn Tryz.prog 96 [.slice a n cp, .slice ea en ec] H [] fun v H' I => (∃ (a' : Option Addr) (n' c' : Nat), v = .tuple [.slice a' n' c', .int .i64 (valL (l.map (evE env))).2].toArray ∧ HRow H' a' n' c' 3 ((valL (l.map (evE env))).1.map vlrow)) ∧ I = [] := by
  have hln := hl.len
  refine Fn_of _ _ Tryz.func96 rfl Tryz.ntmps96 rfl fun c => ?_
  repeat' (first | refine O_nil ?_ | refine A_seq ?_ | refine A_region ?_ | refine A_block ?_ | (show opsA _ _ _ _ _ _ _; first | refine O_ev WideF.wide rfl (Ev_pure rfl) rfl rfl ?_ | (show opsA _ _ _ _ (⟨_, .call _, _, _, _, _⟩ :: _) _ _; refine O_ev WideF.wide rfl (Ev_llen rfl) rfl rfl ?_)))
  refine A_nilrow 3 ?_
  refine A_loopu (fun q s => ∃ (i : Nat) (Hq : Hp) (a' : Option Addr) (n' c' : Nat) (acc : List Val), q = n - i ∧ i ≤ n ∧ n' ≤ i ∧ acc.length = n' ∧ HLe H Hq ∧ valL (l.map (evE env)) = preV acc (valL ((l.drop i).map (evE env))) ∧ s = ⟨32, [(1, .slice ea en ec), (6, .slice a' n' c'), (11, .slice a n cp), (12, .int .i64 n), (13, .int .i64 i)], Hq, [.row (.slice a' n' c') 3 (acc.map vlrow)], [], []⟩) ?_ ?_
  · exact Shift.to ⟨_, 0, _, _, _, _, [], rfl, by omega, Nat.le_refl _, rfl, HLe.refl _, (preV_nil _).symm, rfl⟩ ⟨rfl, rfl, rfl, ⟨rfl, rfl, rfl, rfl, rfl, trivial⟩, Own.subi [0] (by decide) rfl rfl⟩
  rintro q s ⟨i, Hq, a', n', c', acc, rfl, hi, hni, hacc, hle, heq, rfl⟩
  by_cases hlt : i < n
  · obtain ⟨bb, bo, rcs, y, rfl, hy, hyc, hyk, hce⟩ := (NodesS.mono hle hl).at i hlt
    have kv := ke y (List.mem_of_getElem? hy) Hq rcs hle hyc
    obtain ⟨ya, yn, yc, rfl, -⟩ := hyc.cells
    have hd : l.drop i = y :: l.drop (i + 1) := by
      obtain ⟨hlt', hy'⟩ := List.getElem?_eq_some_iff.1 hy
      rw [List.drop_eq_getElem_cons hlt', hy']
    rw [hd, List.map_cons, preV_cons] at heq
    obtain ⟨⟨w, e⟩, hp⟩ : ∃ p, p = evE env y := ⟨_, rfl⟩
    rw [← hp] at kv heq
    dsimp only at heq
    have hwone : ∀ cs ∈ [vlrow w], ∀ u ∈ cs, u.oneCell' = true := by have := vlrow_one [w]; simpa using this
    have haccl : (acc.map vlrow).length = n' := by rw [List.length_map]; exact hacc
    by_cases h0 : e = 0
    · rw [if_neg (fun h => h h0)] at heq
      rw [h0] at kv
      repeat' (first | (refine O_ev WideF.wide rfl (Ev_loadH rfl hce rfl) rfl rfl ?_) | (refine O_ef rfl (Ef_call (I := []) WideF.wide kv ⟨rfl, rfl, trivial⟩ rfl ?_); rintro v3 H3 I3 hle3 ⟨rfl, rfl⟩) | (refine O_ef rfl (Ef_buildF WideF.wide (xs := [_]) (vs := [rV w]) (css := [vlrow w]) rfl ⟨rfl, trivial⟩ rfl rfl rfl rfl rfl rfl hwone ?_); intro b4 H4 hle4 hr4) | (refine O_f2 (O_ef rfl (Ef_appendH (css := acc.map vlrow) WideF.wide rfl rfl hr4 rfl rfl (by omega) (by omega) rfl ?_)); intro a5 c5) | refine O_nil ?_ | refine A_seq ?_ | refine A_region ?_ | refine A_skip ?_ | refine A_block ?_ | (show opsA _ _ _ _ _ _ _; first | refine O_ev WideF.wide rfl (Ev_pure rfl) rfl rfl ?_ | (show opsA _ _ _ _ (⟨_, .load _ _, _, _, _, _⟩ :: _) _ _; refine O_ev WideF.wide rfl (Ev_loadB (i := 0) rfl rfl rfl) rfl rfl ?_) | (show opsA _ _ _ _ (⟨_, .indexAddr _ _ _, _, _, _, _⟩ :: _) _ _; refine O_ev WideF.wide rfl (Ev_indexAddr rfl rfl (by omega) (by omega)) rfl rfl ?_) | (show opsA _ _ _ _ (⟨_, .binOp _ _ _ _ _, _, _, _, _⟩ :: _) _ _; refine O_ev WideF.wide rfl (Ev_add rfl rfl (wi64 (by omega))) rfl rfl ?_) | (show opsA _ _ _ _ (⟨_, .alloc _, _, _, _, _⟩ :: _) _ _; (refine O_ef rfl (Ef_alloc WideF.wide rfl ?_); intro b)) | (show opsA _ _ _ _ (⟨_, .store _ _ _, _, _, _, _⟩ :: _) _ _; refine O_ef rfl (Ef_storew WideF.wide rfl rfl rfl rfl rfl ?_))) | (show wpA _ _ _ (.cond _ _ _) _ _ _ _; (refine A_if rfl (fun h => ?_) (fun h => ?_) <;> try (exfalso; omega))))
      all_goals first
        | (exfalso; omega)
        | (exfalso; contradiction)
        | (exfalso; exact absurd trivial (by assumption))
        | (exfalso; exact absurd rfl (by assumption))
        | (rw [show acc.map vlrow ++ [vlrow w] = (acc ++ [w]).map vlrow by simp]; exact Shift.to ⟨_, by omega, i + 1, _, _, _, _, acc ++ [w], rfl, by omega, (by simp; omega), (by simp), (hle.trans hle3).trans hle4, heq, rfl⟩ ⟨rfl, rfl, rfl, ⟨rfl, rfl, rfl, rfl, rfl, trivial⟩, Own.subi [0] (by decide) rfl rfl⟩)
        | trace_state
    · rw [if_pos h0] at heq
      repeat' (first | (refine O_ev WideF.wide rfl (Ev_loadH rfl hce rfl) rfl rfl ?_) | (refine O_ef rfl (Ef_call (I := []) WideF.wide kv ⟨rfl, rfl, trivial⟩ rfl ?_); rintro v3 H3 I3 hle3 ⟨rfl, rfl⟩) | refine O_nil ?_ | refine A_seq ?_ | refine A_region ?_ | refine A_skip ?_ | refine A_ret ?_ | refine A_block ?_ | (show opsA _ _ _ _ _ _ _; first | refine O_ev WideF.wide rfl (Ev_pure rfl) rfl rfl ?_ | (show opsA _ _ _ _ (⟨_, .load _ _, _, _, _, _⟩ :: _) _ _; refine O_ev WideF.wide rfl (Ev_loadB (i := 0) rfl rfl rfl) rfl rfl ?_) | (show opsA _ _ _ _ (⟨_, .indexAddr _ _ _, _, _, _, _⟩ :: _) _ _; refine O_ev WideF.wide rfl (Ev_indexAddr rfl rfl (by omega) (by omega)) rfl rfl ?_) | (show opsA _ _ _ _ (⟨_, .alloc _, _, _, _, _⟩ :: _) _ _; (refine O_ef rfl (Ef_alloc WideF.wide rfl ?_); intro b)) | (show opsA _ _ _ _ (⟨_, .store _ _ _, _, _, _, _⟩ :: _) _ _; refine O_ef rfl (Ef_storew WideF.wide rfl rfl rfl rfl rfl ?_))) | (show wpA _ _ _ (.cond _ _ _) _ _ _ _; (refine A_if rfl (fun h => ?_) (fun h => ?_) <;> try (exfalso; omega))))
      all_goals first
        | (exfalso; omega)
        | (exfalso; contradiction)
        | (exfalso; exact absurd trivial (by assumption))
        | (exfalso; exact absurd rfl (by assumption))
        | (rw [heq]; exact End_e (Ret2 rfl rfl rfl) ⟨⟨_, _, _, rfl, HRow.nil' _ 3⟩, rfl⟩)
        | trace_state
  · obtain rfl : i = n := by omega
    rw [List.drop_of_length_le (by omega)] at heq
    have heq' : valL (l.map (evE env)) = (acc, 0) := by
      rw [heq]
      show preV acc ([], 0) = _
      unfold preV
      rw [if_neg (by simp), List.append_nil]
    rw [heq']
    repeat' (first | refine O_nil ?_ | refine A_seq ?_ | refine A_region ?_ | refine A_ret ?_ | (show opsA _ _ _ _ _ _ _; refine O_ev WideF.wide rfl (Ev_pure rfl) rfl rfl ?_) | (show wpA _ _ _ (.exit _) _ _ _ _; refine A_exit rfl ?_) | (show wpA _ _ _ (.cond _ _ _) _ _ _ _; (refine A_if rfl (fun h => ?_) (fun h => ?_) <;> try (exfalso; omega))))
    all_goals first
      | (exfalso; omega)
      | (exfalso; contradiction)
      | (exfalso; exact absurd trivial (by assumption))
      | (exfalso; exact absurd rfl (by assumption))
      | (refine End_s (Ret2 rfl rfl rfl) ?_; refine Shift_freeze (vlrow_one acc) ?_; intro H6 hle6 hr6; exact Shift.to (s' := ⟨_, [], _, [], [], []⟩) ⟨rfl, ⟨_, _, _, rfl, hr6⟩, rfl⟩ ⟨rfl, rfl, rfl, trivial, Own.sub_nil _⟩)
      | trace_state
end Go.Proofs.YtnoadopmeoohmaaGreatDoor
