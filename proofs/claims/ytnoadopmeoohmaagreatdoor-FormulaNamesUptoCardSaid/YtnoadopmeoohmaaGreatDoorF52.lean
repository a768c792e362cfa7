/-
  The law Names: its plain part.
  The law Names. Printed by genF52.py.
-/
import Derived.Test.YtnoadopmeoohmaaGreatDoorF48
import Derived.Test.YtnoadopmeoohmaaGreatDoorF50
namespace Go.Proofs.YtnoadopmeoohmaaGreatDoor
open Go
set_option linter.unusedVariables false
set_option linter.unusedSimpArgs false
section
/-! ### the insertion into a sorted list -/
def insR : List (List UInt8) → List UInt8 → List (List UInt8)
  | [], s => [s]
  | x :: l, s => if x < s then x :: insR l s else if x = s then x :: l else s :: x :: l
theorem insP_cons (x : List UInt8) (l : List (List UInt8)) (s : List UInt8) : insP (x :: l) s = if x < s then insP l s + 1 else 0 := by
  unfold insP
  rw [List.takeWhile_cons, bytesLess_eq]
  by_cases h : x < s
  · rw [decide_eq_true h, if_pos h]; rfl
  · rw [decide_eq_false h, if_neg h]; rfl
theorem ins_eq : ∀ (l : List (List UInt8)) (s : List UInt8), ins l s = insR l s
  | [], s => by
    have h : insP [] s = 0 := rfl
    unfold ins
    rw [h, if_pos (.inl rfl)]
    rfl
  | x :: l, s => by
    have ih := ins_eq l s
    unfold ins at ih ⊢
    unfold insR
    rw [insP_cons]
    by_cases h : x < s
    · rw [if_pos h, if_pos h, ← ih]
      simp only [List.length_cons, Nat.add_right_cancel_iff, List.getElem?_cons_succ, List.take_succ_cons, List.drop_succ_cons]
      by_cases h2 : insP l s = l.length ∨ l[insP l s]? ≠ some s
      · rw [if_pos h2, if_pos h2]; rfl
      · rw [if_neg h2, if_neg h2]
    · rw [if_neg h, if_neg h]
      by_cases h2 : x = s
      · rw [if_pos h2, if_neg]
        rintro (h3 | h3)
        · exact absurd h3 (by simp)
        · exact h3 (by rw [h2]; rfl)
      · rw [if_neg h2, if_pos (.inr (fun h3 => h2 (by simpa using h3)))]
        rfl
theorem insR_mem : ∀ (l : List (List UInt8)) (s t : List UInt8), t ∈ insR l s ↔ t ∈ l ∨ t = s
  | [], s, t => by simp [insR]
  | x :: l, s, t => by
    unfold insR
    split
    · rw [List.mem_cons, insR_mem l s t, List.mem_cons, or_assoc]
    · split
      · rename_i h; subst h
        rw [List.mem_cons]
        exact ⟨fun h => .inl h, fun h => h.elim id fun h => .inl h⟩
      · rw [List.mem_cons]
        exact ⟨fun h => h.elim .inr .inl, fun h => h.elim .inr .inl⟩
theorem lt_of_not {x s : List UInt8} (h : ¬ x < s) (h2 : ¬ x = s) : s < x := by
  rcases List.le_total x s with h3 | h3
  · exact absurd (Std.Antisymm.antisymm x s h3 (List.not_lt.1 h)) h2
  · exact Classical.not_not.1 fun h4 => h2 (Std.Antisymm.antisymm x s (List.not_lt.1 h4) h3)
theorem insR_sorted : ∀ (l : List (List UInt8)) (s : List UInt8), l.Pairwise (· < ·) → (insR l s).Pairwise (· < ·)
  | [], s, _ => by simp [insR]
  | x :: l, s, h => by
    obtain ⟨h1, h2⟩ := List.pairwise_cons.1 h
    unfold insR
    split
    · rename_i hx
      refine List.pairwise_cons.2 ⟨fun t ht => ?_, insR_sorted l s h2⟩
      rcases (insR_mem l s t).1 ht with h3 | h3
      · exact h1 t h3
      · rw [h3]; exact hx
    · split
      · exact h
      · rename_i hx hne
        have hlt := lt_of_not hx hne
        refine List.pairwise_cons.2 ⟨fun t ht => ?_, h⟩
        rcases List.mem_cons.1 ht with h3 | h3
        · rw [h3]; exact hlt
        · exact List.lt_trans hlt (h1 t h3)
/-! ### the names on both sides -/
theorem sput_nodup {x : List UInt8} {v : Value} : ∀ {kvs : KV}, (kvs.map Prod.fst).Nodup → ((sput kvs x v).map Prod.fst).Nodup
  | [], _ => by simp [sput]
  | p :: r, hn => by
    have hn' := List.nodup_cons.1 hn
    unfold sput
    by_cases e : p.1 = x
    · rw [if_pos e]
      simp only [List.map_cons, List.nodup_cons]
      exact ⟨by rw [← e]; exact hn'.1, hn'.2⟩
    · rw [if_neg e]
      have h1 := sput_nodup (x := x) (v := v) hn'.2
      simp only [List.map_cons, List.nodup_cons]
      refine ⟨fun hm => ?_, h1⟩
      have hm' : shas (sput r x v) p.1 := hm
      rw [shas_put] at hm'
      exact hm'.elim hn'.1 e
structure Rel (kvs : KV) (l : List (List UInt8)) : Prop where
  nd : (kvs.map Prod.fst).Nodup
  srt : l.Pairwise (· < ·)
  mem : ∀ s, shas kvs s ↔ s ∈ l
theorem Rel.put {kvs : KV} {l : List (List UInt8)} (h : Rel kvs l) (s : List UInt8) (v : Value) : Rel (sput kvs s v) (ins l s) :=
  ⟨sput_nodup h.nd, by rw [ins_eq]; exact insR_sorted l s h.srt, fun t => by rw [shas_put, ins_eq, insR_mem, h.mem]⟩
mutual
theorem Rel.step : ∀ (x : Nd) {kvs : KV} {l : List (List UInt8)}, Rel kvs l → Rel (nmV x kvs) (lnm x l)
  | .mk op num text args, kvs, l, h => by
    rw [nmV, lnm]
    refine Rel.stepL args ?_
    split
    · exact h.put text _
    · exact h
theorem Rel.stepL : ∀ (r : List Nd) {kvs : KV} {l : List (List UInt8)}, Rel kvs l → Rel (nmVL r kvs) (lnmL r l)
  | [], kvs, l, h => by rw [nmVL_nil, lnmL_nil]; exact h
  | x :: r, kvs, l, h => by rw [nmVL_cons, lnmL_cons]; exact Rel.stepL r (Rel.step x h)
end
theorem rel_all (x : Nd) : Rel (nmV x []) (lnm x []) := Rel.step x ⟨by simp, List.Pairwise.nil, fun s => by simp [shas]⟩
theorem nmP_eq (x : Nd) : nmP x = lnm x [] := by
  have h := rel_all x
  have hs : (lnm x []).Pairwise (· ≤ ·) := h.srt.imp fun h => List.le_of_lt h
  have hnd : (lnm x []).Nodup := h.srt.imp fun h h2 => by rw [h2] at h; exact List.lt_irrefl _ h
  have hp : ((nmV x []).map Prod.fst).Perm (lnm x []) := (List.perm_ext_iff_of_nodup h.nd hnd).2 h.mem
  unfold nmP
  refine List.Perm.eq_of_pairwise (le := fun x y : List UInt8 => x ≤ y) ?_ (strs_le _) hs ((srtS_perm _).trans hp)
  intro x y _ _ h1 h2
  exact Std.Antisymm.antisymm x y h1 h2
/-! ### bindings of other names do not matter -/
theorem ins_mono {l : List (List UInt8)} {s t : List UInt8} (h : t ∈ l) : t ∈ ins l s := by rw [ins_eq, insR_mem]; exact .inl h
mutual
theorem lnm_mono : ∀ (x : Nd) {l : List (List UInt8)} {t : List UInt8}, t ∈ l → t ∈ lnm x l
  | .mk op num text args, l, t, h => by
    rw [lnm]
    refine lnmL_mono args ?_
    split
    · exact ins_mono h
    · exact h
theorem lnmL_mono : ∀ (r : List Nd) {l : List (List UInt8)} {t : List UInt8}, t ∈ l → t ∈ lnmL r l
  | [], l, t, h => by rw [lnmL_nil]; exact h
  | x :: r, l, t, h => by rw [lnmL_cons]; exact lnmL_mono r (lnm_mono x h)
end
def onlyL (L : List (List UInt8)) (env : List Bnd) : List Bnd := env.flatMap fun b => (L.filter fun s => decide (b.name = s)).map fun _ => b
theorem onlyL_find {L : List (List UInt8)} {t : List UInt8} (h : t ∈ L) : ∀ env : List Bnd, (onlyL L env).find? (fun b => decide (b.name = t)) = env.find? (fun b => decide (b.name = t))
  | [] => rfl
  | b :: env => by
    have ih := onlyL_find h env
    have e : onlyL L (b :: env) = ((L.filter fun s => decide (b.name = s)).map fun _ => b) ++ onlyL L env := rfl
    rw [e, List.find?_append, ih]
    by_cases hb : b.name = t
    · obtain ⟨y, r, hr⟩ : ∃ y r, (L.filter fun s => decide (b.name = s)) = y :: r := by
        cases hf : L.filter fun s => decide (b.name = s) with
        | nil =>
          exfalso
          have : t ∈ L.filter fun s => decide (b.name = s) := List.mem_filter.2 ⟨h, by simpa using hb⟩
          rw [hf] at this
          cases this
        | cons y r => exact ⟨y, r, rfl⟩
      rw [hr]
      simp [hb]
    · have hnone : ((L.filter fun s => decide (b.name = s)).map fun _ => b).find? (fun b => decide (b.name = t)) = none := by
        rw [List.find?_eq_none]
        intro z hz
        obtain ⟨_, _, rfl⟩ := List.mem_map.1 hz
        simpa using hb
      rw [hnone, List.find?_cons, decide_eq_false hb]
      rfl
theorem evT_env {env env' : List Bnd} {op num : Int} {text : List UInt8} {rs : List (Val × Int)} (h : op = 4 → env.find? (fun b => decide (b.name = text)) = env'.find? (fun b => decide (b.name = text))) : evT env op num text rs = evT env' op num text rs := by
  unfold evT
  by_cases h4 : op = 4
  · rw [h h4]
  · simp only [if_neg h4]
mutual
theorem evE_only {env : List Bnd} {L : List (List UInt8)} : ∀ (x : Nd) {l : List (List UInt8)}, (∀ t ∈ lnm x l, t ∈ L) → evE env x = evE (onlyL L env) x
  | .mk op num text args, l, h => by
    rw [lnm] at h
    rw [evE, evE, evR_only args h]
    refine evT_env fun h4 => ?_
    rw [onlyL_find]
    refine h text (lnmL_mono args ?_)
    rw [if_pos h4, ins_eq, insR_mem]
    exact .inr rfl
theorem evR_only {env : List Bnd} {L : List (List UInt8)} : ∀ (r : List Nd) {l : List (List UInt8)}, (∀ t ∈ lnmL r l, t ∈ L) → evR env r = evR (onlyL L env) r
  | [], l, _ => by rw [evR, evR]
  | x :: r, l, h => by
    rw [lnmL_cons] at h
    rw [evR, evR, evE_only x (l := l) (fun t ht => h t (lnmL_mono r ht)), evR_only r h]
end
/-- the list of the names -/
noncomputable def nmL (x : Nd) : List (List UInt8) := if chkE x = 0 then lnm x [] else []
theorem evl_only (env : List Bnd) (x : Nd) : evl (onlyL (nmL x) env) x = evl env x := by
  unfold evl nmL
  by_cases h : chkE x = 0
  · simp only [h, ne_eq, not_true_eq_false, if_false, if_true]
    exact (evE_only x (l := []) (fun t ht => ht)).symm
  · simp only [h, ne_eq, not_false_eq_true, if_true]
theorem onlyL_snoc (L : List (List UInt8)) (a : List Bnd) (b : Bnd) : onlyL L (a ++ [b]) = onlyL L a ++ ((L.filter fun s => decide (b.name = s)).map fun _ => b) := by
  unfold onlyL
  rw [List.flatMap_append]
  simp
theorem onlyL_mem {L : List (List UInt8)} {env : List Bnd} {b : Bnd} (h : b ∈ onlyL L env) : b ∈ env := by
  obtain ⟨c, hc, hb⟩ := List.mem_flatMap.1 h
  obtain ⟨_, _, rfl⟩ := List.mem_map.1 hb
  exact hc
theorem onlyL_len (L : List (List UInt8)) : ∀ env : List Bnd, (onlyL L env).length ≤ env.length * L.length
  | [] => by simp [onlyL]
  | b :: env => by
    have ih := onlyL_len L env
    have e : onlyL L (b :: env) = ((L.filter fun s => decide (b.name = s)).map fun _ => b) ++ onlyL L env := rfl
    have h1 : (L.filter fun s => decide (b.name = s)).length ≤ L.length := List.length_filter_le _ _
    rw [e, List.length_append, List.length_map, List.length_cons, Nat.succ_mul]
    omega
end
theorem bd_one (b : Bnd) : ∀ u ∈ bdrow b, u.oneCell' = true := bdrow_one [b] _ (by simp)
theorem filt_take {L : List (List UInt8)} {k : Nat} {y s : List UInt8} (h : L[k]? = some y) : (L.take (k + 1)).filter (fun t => decide (s = t)) = (L.take k).filter (fun t => decide (s = t)) ++ (if s = y then [y] else []) := by
  rw [take_getN h, List.filter_append]
  congr 1
  by_cases e : s = y
  · rw [if_pos e]; simp [e]
  · rw [if_neg e]; simp [e]
attribute [local irreducible] wpA opsA drJ drQ drE Ef Ev Shift Fn

set_option maxRecDepth 100000 in
set_option maxHeartbeats 16000000 in
theorem Names_ok {H : Hp} {cs : List Value} {x : Nd} {ea : Option Addr} {en ec : Nat} {env : List Bnd} (hx : NodeH H cs x) (hm : x.mass < 1048576) (henv : HRow H ea en ec 4 (env.map bdrow)) (hen : en < 1048576) (hE : EnvV env) (hV : VarsH H) (h0 : chkE x = 0) :
    Fn Tryz.prog 11 [.agg cs.toArray, .slice ea en ec] H [] fun v _ I => v = .bool true ∧ I = [] := by
  have hone := hx.one
  have kK := fun Hx (h : HLe H Hx) => known_fn (hV.mono h)
  have kS := fun Hx (h : HLe H Hx) => lsmall_fn (hx.mono h) (by omega)
  have kF := fun Hx (h : HLe H Hx) => fine_fn (henv.mono h) (fun y hy => by have := (hE y hy).2; omega)
  have kP := fun Hx (h : HLe H Hx) => Names_fn (hx.mono h) hm
  have kC := fun Hx (h : HLe H Hx) => lcheck_fn (hx.mono h) (by omega)
  have kN := fun Hx (h : HLe H Hx) => ln_all (x.mass + 1) Hx cs x none 0 0 [] (hx.mono h) (by omega) (HRow.nil' Hx 1) (by omega)
  have kV := fun Hx (h : HLe H Hx) => Eval_fn (hx.mono h) (by omega) (henv.mono h) (by omega) hE (hV.mono h)
  have hLn := lnm_len x []
  rw [List.length_nil] at hLn
  have hnL : (nmL x).length ≤ 1048576 := by
    unfold nmL
    by_cases h : chkE x = 0
    · rw [if_pos h]; omega
    · rw [if_neg h]; exact Nat.zero_le _
  rw [(lck_chkE x).2 h0] at kC
  simp only [if_pos h0, nmP_eq] at kP
  have hL : (nmL x).map srow = (lnm x []).map srow := by unfold nmL; rw [if_pos h0]
  obtain ⟨a, n, cp, rfl, hs⟩ := hx.cells
  refine Fn_of _ _ Tryz.func11 rfl Tryz.ntmps11 rfl fun c => ?_
  repeat' (first | (refine O_ef rfl (Ef_boxa WideF.wide (cs := [.int .i64 x.op, .int .i64 x.num, sv x.text, .slice a n cp]) rfl rfl ?_); intro b2; refine O_freezeBox hone ?_; intro H1 hle1 hc) | (show opsA _ _ _ _ (⟨some 15, .call _, _, _, _, _⟩ :: _) _ _; refine O_ef rfl (Ef_call (I := []) WideF.wide (kK _ hle1) trivial rfl ?_); rintro v2 H2 I2 hle2 ⟨rfl, rfl⟩) | (show opsA _ _ _ _ (⟨some 18, .load _ _, _, _, _, _⟩ :: _) _ _; refine O_ev WideF.wide rfl (Ev_loadH rfl (hc.mono hle2) rfl) rfl rfl ?_) | (show opsA _ _ _ _ (⟨some 19, .call _, _, _, _, _⟩ :: _) _ _; refine O_ef rfl (Ef_call (I := []) WideF.wide (kS _ (hle1.trans hle2)) ⟨rfl, trivial⟩ rfl ?_); rintro v3 H3 I3 hle3 ⟨⟨r3, rfl⟩, rfl⟩; cases r3) | (show opsA _ _ _ _ (⟨some 24, .call _, _, _, _, _⟩ :: _) _ _; refine O_ef rfl (Ef_call (I := []) WideF.wide (kF _ ((hle1.trans hle2).trans hle3)) ⟨rfl, trivial⟩ rfl ?_); rintro v4 H4 I4 hle4 ⟨⟨r4, rfl⟩, rfl⟩; cases r4) | (show opsA _ _ _ _ (⟨some 27, .call _, _, _, _, _⟩ :: _) _ _; refine O_ef rfl (Ef_call (I := []) WideF.wide (kK _ (by first | exact ((hle1.trans hle2).trans hle3).trans hle4 | exact (hle1.trans hle2).trans hle3)) trivial rfl ?_); rintro v5 H5 I5 hle5 ⟨rfl, rfl⟩) | (show opsA _ _ _ _ (⟨some 28, .load _ _, _, _, _, _⟩ :: _) _ _; refine O_ev WideF.wide rfl (Ev_loadH rfl (((hc.mono hle2).mono hle3).mono hle4) rfl) rfl rfl ?_) | (show opsA _ _ _ _ (⟨some 29, .call _, _, _, _, _⟩ :: _) _ _; refine O_ef rfl (Ef_call (I := []) WideF.wide (kP _ (((hle1.trans hle2).trans hle3).trans hle4)) ⟨rfl, trivial⟩ rfl ?_); rintro v6 H6 I6 hle6 ⟨⟨a1, n1, c1, rfl, hr1⟩, rfl⟩) | (show opsA _ _ _ _ (⟨some 30, .load _ _, _, _, _, _⟩ :: _) _ _; refine O_ev WideF.wide rfl (Ev_loadH rfl ((((hc.mono hle2).mono hle3).mono hle4).mono hle6) rfl) rfl rfl ?_) | (show opsA _ _ _ _ (⟨some 31, .call _, _, _, _, _⟩ :: _) _ _; refine O_ef rfl (Ef_call (I := []) WideF.wide (kC _ ((((hle1.trans hle2).trans hle3).trans hle4).trans hle6)) ⟨rfl, trivial⟩ rfl ?_); rintro v7 H7 I7 hle7 ⟨rfl, rfl⟩) | (show opsA _ _ _ _ (⟨some 33, .load _ _, _, _, _, _⟩ :: _) _ _; refine O_ev WideF.wide rfl (Ev_loadH rfl (((((hc.mono hle2).mono hle3).mono hle4).mono hle6).mono hle7) rfl) rfl rfl ?_) | (show opsA _ _ _ _ (⟨some 34, .call _, _, _, _, _⟩ :: _) _ _; refine O_ef rfl (Ef_call (I := []) WideF.wide (kN _ (((((hle1.trans hle2).trans hle3).trans hle4).trans hle6).trans hle7)) ⟨rfl, rfl, trivial⟩ rfl ?_); rintro v8 H8 I8 hle8 ⟨⟨a2, n2, c2, rfl, hr2⟩, rfl⟩) | refine O_nil ?_ | refine A_seq ?_ | refine A_region ?_ | refine A_skip ?_ | refine A_ret ?_ | refine A_block ?_ | (show opsA _ _ _ _ _ _ _; first | refine O_ev WideF.wide rfl (Ev_pure rfl) rfl rfl ?_ | (show opsA _ _ _ _ (⟨_, .call _, _, _, _, _⟩ :: _) _ _; refine O_ev WideF.wide rfl (Ev_llen rfl) rfl rfl ?_) | (show opsA _ _ _ _ (⟨_, .unOp _ _ _, _, _, _, _⟩ :: _) _ _; refine O_ev WideF.wide rfl (Ev_notb rfl) rfl rfl ?_) | refine O_skip WideF.wide rfl rfl rfl ?_) | (show wpA _ _ _ (.cond _ _ _) _ _ _ _; first | (refine A_if rfl (fun h => ?_) (fun h => ?_) <;> try (exfalso; omega)) | refine A_iftrue rfl ?_ | refine A_iffalse rfl ?_))
  all_goals first
    | (exfalso; omega)
    | (exfalso; contradiction)
    | (exfalso; exact absurd trivial (by assumption))
    | (exfalso; exact absurd rfl (by assumption))
    | exact End_e (Ret1 rfl rfl) ⟨rfl, rfl⟩
    | skip
  · exfalso
    have e1 := hr1.len
    have e2 := hr2.len
    simp only [List.length_map, List.length_nil] at e1 e2
    omega
  have hr1' : HRow H8 a1 n1 c1 1 ((nmL x).map srow) := ((hr1.mono hle7).mono hle8).cong hL
  have hr2' : HRow H8 a2 n2 c2 1 ((nmL x).map srow) := hr2.cong hL
  have hle0 : HLe H H8 := ((((((hle1.trans hle2).trans hle3).trans hle4).trans hle6).trans hle7).trans hle8)
  have hc0 := (((((hc.mono hle2).mono hle3).mono hle4).mono hle6).mono hle7).mono hle8
  have hen0 := henv.mono hle0
  have hn1 := hr1'.len
  have hn2 := hr2'.len
  have hne := hen0.len
  rw [List.length_map] at hn1 hn2 hne
  have hn1b : n1 ≤ 1048576 := by omega
  refine A_nilrow 4 ?_
  refine A_loopu (fun q s => ∃ (i : Nat) (oa : Option Addr) (on oc : Nat) (css : List (List Value)), q = en - i ∧ i ≤ en ∧ css.length = on ∧ css = (onlyL (nmL x) (env.take i)).map bdrow ∧ s = ⟨104, [(1, .slice ea en ec), (2, .pointer (some ⟨b2, 0, none⟩)), (5, .slice a1 n1 c1), (6, .slice a2 n2 c2), (7, .slice oa on oc), (8, .int .i64 i)], H8, [.row (.slice oa on oc) 4 css], [], []⟩) ?_ ?_
  · exact Shift.to ⟨_, 0, none, 0, 0, [], rfl, by omega, rfl, rfl, rfl⟩ ⟨rfl, rfl, rfl, ⟨rfl, rfl, rfl, rfl, rfl, rfl, trivial⟩, Own.subi [0] (by decide) rfl rfl⟩
  · rintro q s ⟨i, oa, on, oc, css, rfl, hi, hon, hcss, rfl⟩
    by_cases hlt : i < en
    · obtain ⟨eb, eo, bd, hbb, hbi, hcb⟩ := hen0.atm i hlt
      subst hbb
      unfold bdrow at hcb
      have htk := take_getN hbi
      repeat' (first | refine O_nil ?_ | refine A_seq ?_ | refine A_region ?_ | refine A_skip ?_ | refine A_block ?_ | (show opsA _ _ _ _ _ _ _; first | refine O_ev WideF.wide rfl (Ev_pure rfl) rfl rfl ?_ | (show opsA _ _ _ _ (⟨_, .call _, _, _, _, _⟩ :: _) _ _; refine O_ev WideF.wide rfl (Ev_llen rfl) rfl rfl ?_)) | (show wpA _ _ _ (.cond _ _ _) _ _ _ _; (refine A_if rfl (fun h => ?_) (fun h => ?_) <;> try (exfalso; omega))))
      all_goals try (exfalso; omega)
      refine A_loopu (fun q s => ∃ (k : Nat) (oa : Option Addr) (on oc : Nat) (css : List (List Value)), q = n1 - k ∧ k ≤ n1 ∧ css.length = on ∧ css = (onlyL (nmL x) (env.take i) ++ (((nmL x).take k).filter fun s => decide (bd.name = s)).map fun _ => bd).map bdrow ∧ s = ⟨104, [(1, .slice (some ⟨eb, eo, none⟩) en ec), (2, .pointer (some ⟨b2, 0, none⟩)), (5, .slice a1 n1 c1), (6, .slice a2 n2 c2), (7, .slice oa on oc), (8, .int .i64 i), (9, .int .i64 k)], H8, [.row (.slice oa on oc) 4 css], [], []⟩) ?_ ?_
      · exact Shift.to ⟨_, 0, oa, on, oc, css, rfl, by omega, hon, by rw [hcss]; simp, rfl⟩ ⟨rfl, rfl, rfl, ⟨rfl, rfl, rfl, rfl, rfl, rfl, rfl, trivial⟩, Own.subi [0] (by decide) rfl rfl⟩
      · rintro q s ⟨k, oa, on, oc, css, rfl, hk, hon, hcss, rfl⟩
        by_cases hkl : k < n1
        · obtain ⟨lb, lo, y, hbb, hyk, hcl⟩ := hr1'.atm k hkl
          subst hbb
          unfold srow at hcl
          have hft := filt_take (s := bd.name) hyk
          have hcl1 := onlyL_len (nmL x) (env.take i)
          have hcl2 : (((nmL x).take k).filter fun s => decide (bd.name = s)).length ≤ k := Nat.le_trans (List.length_filter_le _ _) (by rw [List.length_take]; omega)
          have hcl3 : (env.take i).length ≤ 1048576 := by rw [List.length_take]; omega
          have hcl4 : (env.take i).length * (nmL x).length ≤ 1048576 * 1048576 := Nat.mul_le_mul hcl3 (by omega)
          have hcl5 : css.length ≤ 1099512676352 := by rw [hcss]; simp only [List.length_map, List.length_append]; omega
          by_cases hbn : bd.name = y
          · rw [if_pos hbn] at hft
            repeat' (first | (refine A_drawM WideF.wide (.q 0 (.q 1 (.q 2 (.q 3 (.q 4 (.q 5 (.q 6 (.q 7 (.q 8 (.q 9 (.done []))))))))))) [] (by decide +kernel) ?_) | (refine D_ev rfl (Ev_loadH1 rfl (hcb 0 _ rfl)) rfl rfl ?_) | (refine D_ev rfl (Ev_loadH1 rfl (hcl 0 _ rfl)) rfl rfl ?_) | (refine O_ev WideF.wide rfl (Ev_loadH rfl hcb rfl) rfl rfl ?_) | refine O_nil ?_ | refine A_seq ?_ | refine A_region ?_ | refine A_skip ?_ | refine A_block ?_ | (show drJ _ _ _ _ _ _ _ (.q _ _) _; refine D_q rfl ?_) | (show drJ _ _ _ _ _ _ _ (.done _) _; refine D_done ?_; simp only [List.cons_append, List.nil_append]) | (show drQ _ _ _ _ _ _; first | refine D_ev rfl (Ev_pure rfl) rfl rfl ?_ | (show drQ _ _ _ ⟨_, .indexAddr _ _ _, _, _, _, _⟩ _ _; refine D_ev rfl (Ev_indexAddr rfl rfl (by omega) (by omega)) rfl rfl ?_) | (show drQ _ _ _ ⟨_, .fieldAddr _ _ _, _, _, _, _⟩ _ _; refine D_ev rfl (Ev_fieldAddr rfl rfl rfl) rfl rfl ?_) | (show drQ _ _ _ ⟨_, .binOp _ _ _ _ _, _, _, _, _⟩ _ _; refine D_ev rfl (Ev_seql rfl rfl) rfl rfl ?_)) | (show opsA _ _ _ _ _ _ _; first | refine O_ev WideF.wide rfl (Ev_pure rfl) rfl rfl ?_ | (show opsA _ _ _ _ (⟨_, .indexAddr _ _ _, _, _, _, _⟩ :: _) _ _; refine O_ev WideF.wide rfl (Ev_indexAddr rfl rfl (by omega) (by omega)) rfl rfl ?_) | (show opsA _ _ _ _ (⟨_, .call _, _, _, _, _⟩ :: _) _ _; first | refine O_ev WideF.wide rfl (Ev_llen rfl) rfl rfl ?_ | (refine O_f1 (O_ef rfl (Ef_appendR WideF.wide rfl rfl rfl rfl rfl (by simp; omega) (by simp; omega) rfl ?_)); intro a cp)) | (show opsA _ _ _ _ (⟨_, .buildSlice _ _ _, _, _, _, _⟩ :: _) _ _; (refine O_ef rfl (Ef_build1a WideF.wide rfl rfl rfl rfl rfl ?_); intro b)) | (show opsA _ _ _ _ (⟨_, .binOp _ _ _ _ _, _, _, _, _⟩ :: _) _ _; refine O_ev WideF.wide rfl (Ev_add rfl rfl (wi64 (by omega))) rfl rfl ?_)) | (show wpA _ _ _ (.cond _ _ _) _ _ _ _; (refine A_if rfl (fun h => ?_) (fun h => ?_) <;> try (exfalso; omega))))
            all_goals first
              | (exfalso; omega)
              | (exfalso; contradiction)
              | (exfalso; exact absurd trivial (by assumption))
              | (exfalso; exact absurd rfl (by assumption))
              | exact Shift.to ⟨_, by omega, k + 1, _, _, _, css ++ [bdrow bd], rfl, by omega, by simp [hon], by rw [hft, hcss]; simp, rfl⟩ ⟨rfl, rfl, rfl, ⟨rfl, rfl, rfl, rfl, rfl, rfl, rfl, trivial⟩, Own.subi [0] (by decide) rfl rfl⟩
              | trace_state
          · rw [if_neg hbn, List.append_nil] at hft
            repeat' (first | (refine A_drawM WideF.wide (.q 0 (.q 1 (.q 2 (.q 3 (.q 4 (.q 5 (.q 6 (.q 7 (.q 8 (.q 9 (.done []))))))))))) [] (by decide +kernel) ?_) | (refine D_ev rfl (Ev_loadH1 rfl (hcb 0 _ rfl)) rfl rfl ?_) | (refine D_ev rfl (Ev_loadH1 rfl (hcl 0 _ rfl)) rfl rfl ?_) | refine O_nil ?_ | refine A_seq ?_ | refine A_region ?_ | refine A_skip ?_ | refine A_block ?_ | (show drJ _ _ _ _ _ _ _ (.q _ _) _; refine D_q rfl ?_) | (show drJ _ _ _ _ _ _ _ (.done _) _; refine D_done ?_; simp only [List.cons_append, List.nil_append]) | (show drQ _ _ _ _ _ _; first | refine D_ev rfl (Ev_pure rfl) rfl rfl ?_ | (show drQ _ _ _ ⟨_, .indexAddr _ _ _, _, _, _, _⟩ _ _; refine D_ev rfl (Ev_indexAddr rfl rfl (by omega) (by omega)) rfl rfl ?_) | (show drQ _ _ _ ⟨_, .fieldAddr _ _ _, _, _, _, _⟩ _ _; refine D_ev rfl (Ev_fieldAddr rfl rfl rfl) rfl rfl ?_) | (show drQ _ _ _ ⟨_, .binOp _ _ _ _ _, _, _, _, _⟩ _ _; refine D_ev rfl (Ev_seql rfl rfl) rfl rfl ?_)) | (show opsA _ _ _ _ _ _ _; first | refine O_ev WideF.wide rfl (Ev_pure rfl) rfl rfl ?_ | (show opsA _ _ _ _ (⟨_, .load _ _, _, _, _, _⟩ :: _) _ _; refine O_ev WideF.wide rfl (Ev_loadH rfl (by assumption) (by rfl)) rfl rfl ?_) | (show opsA _ _ _ _ (⟨_, .indexAddr _ _ _, _, _, _, _⟩ :: _) _ _; refine O_ev WideF.wide rfl (Ev_indexAddr rfl rfl (by omega) (by omega)) rfl rfl ?_) | (show opsA _ _ _ _ (⟨_, .call _, _, _, _, _⟩ :: _) _ _; first | refine O_ev WideF.wide rfl (Ev_llen rfl) rfl rfl ?_ | (refine O_f1 (O_ef rfl (Ef_appendR WideF.wide rfl rfl rfl rfl rfl (by simp; omega) (by simp; omega) rfl ?_)); intro a cp)) | (show opsA _ _ _ _ (⟨_, .buildSlice _ _ _, _, _, _, _⟩ :: _) _ _; (refine O_ef rfl (Ef_build1a WideF.wide rfl rfl rfl rfl rfl ?_); intro b)) | (show opsA _ _ _ _ (⟨_, .binOp _ _ _ _ _, _, _, _, _⟩ :: _) _ _; refine O_ev WideF.wide rfl (Ev_add rfl rfl (wi64 (by omega))) rfl rfl ?_)) | (show wpA _ _ _ (.cond _ _ _) _ _ _ _; (refine A_if rfl (fun h => ?_) (fun h => ?_) <;> try (exfalso; omega))))
            all_goals first
              | (exfalso; omega)
              | (exfalso; contradiction)
              | (exfalso; exact absurd trivial (by assumption))
              | (exfalso; exact absurd rfl (by assumption))
              | exact Shift.to ⟨_, by omega, k + 1, _, _, _, css, rfl, by omega, hon, by rw [hft, hcss], rfl⟩ ⟨rfl, rfl, rfl, ⟨rfl, rfl, rfl, rfl, rfl, rfl, rfl, trivial⟩, Own.subi [0] (by decide) rfl rfl⟩
              | trace_state
        · obtain rfl : k = n1 := by omega
          rw [show (nmL x).take k = nmL x from List.take_of_length_le (by omega)] at hcss
          repeat' (first | refine O_nil ?_ | refine A_seq ?_ | refine A_region ?_ | (show opsA _ _ _ _ _ _ _; first | refine O_ev WideF.wide rfl (Ev_pure rfl) rfl rfl ?_ | (show opsA _ _ _ _ (⟨_, .call _, _, _, _, _⟩ :: _) _ _; refine O_ev WideF.wide rfl (Ev_llen rfl) rfl rfl ?_) | (show opsA _ _ _ _ (⟨_, .binOp _ _ _ _ _, _, _, _, _⟩ :: _) _ _; refine O_ev WideF.wide rfl (Ev_add rfl rfl (wi64 (by omega))) rfl rfl ?_)) | (show wpA _ _ _ (.exit _) _ _ _ _; refine A_exit rfl ?_) | (show wpA _ _ _ (.cond _ _ _) _ _ _ _; (refine A_if rfl (fun h => ?_) (fun h => ?_) <;> try (exfalso; omega))))
          all_goals first
            | (exfalso; omega)
            | (exfalso; contradiction)
            | (exfalso; exact absurd trivial (by assumption))
            | (exfalso; exact absurd rfl (by assumption))
            | exact Shift.to ⟨_, by omega, i + 1, _, _, _, css, rfl, by omega, hon, by rw [hcss, htk, onlyL_snoc], rfl⟩ ⟨rfl, rfl, rfl, ⟨rfl, rfl, rfl, rfl, rfl, rfl, trivial⟩, Own.subi [0] (by decide) rfl rfl⟩
            | trace_state
    · obtain rfl : i = en := by omega
      rw [List.take_of_length_le (by omega)] at hcss
      repeat' (first | refine O_nil ?_ | refine A_seq ?_ | refine A_region ?_ | refine A_block ?_ | (show opsA _ _ _ _ _ _ _; first | refine O_ev WideF.wide rfl (Ev_pure rfl) rfl rfl ?_ | (show opsA _ _ _ _ (⟨_, .call _, _, _, _, _⟩ :: _) _ _; refine O_ev WideF.wide rfl (Ev_llen rfl) rfl rfl ?_)) | (show wpA _ _ _ (.exit _) _ _ _ _; refine A_exit rfl ?_) | (show wpA _ _ _ (.cond _ _ _) _ _ _ _; (refine A_if rfl (fun h => ?_) (fun h => ?_) <;> try (exfalso; omega))))
      all_goals try (exfalso; omega)
      refine A_loopu (fun q s => ∃ (k : Nat) (Hq : Hp) (oa : Option Addr) (on oc : Nat), q = n1 - k ∧ k ≤ n1 ∧ HLe H8 Hq ∧ HRow Hq oa on oc 4 ((onlyL (nmL x) env).map bdrow) ∧ s = ⟨104, [(1, .slice ea i ec), (2, .pointer (some ⟨b2, 0, none⟩)), (5, .slice a1 n1 c1), (6, .slice a2 n2 c2), (7, .slice oa on oc), (10, .int .i64 k)], Hq, [], [], []⟩) ?_ ?_
      · subst hcss
        exact Shift_freeze (bdrow_one _) fun H9 hle9 hr9 => Shift.to ⟨_, 0, H9, _, _, _, rfl, by omega, hle9, hr9, rfl⟩ ⟨rfl, rfl, rfl, ⟨rfl, rfl, rfl, rfl, rfl, rfl, trivial⟩, Own.sub_nil _⟩
      · rintro q s ⟨k, Hq, oa, on, oc, rfl, hk, hleq, hro, rfl⟩
        by_cases hkl : k < n1
        · obtain ⟨lb, lo, y, hbb, hyk, hcl⟩ := (hr1'.mono hleq).atm k hkl
          obtain ⟨lb2, lo2, y2, hbb2, hyk2, hcl2⟩ := (hr2'.mono hleq).atm k (by omega)
          obtain rfl : y2 = y := by rw [hyk] at hyk2; exact (Option.some.inj hyk2).symm
          subst hbb
          subst hbb2
          unfold srow at hcl hcl2
          repeat' (first | (refine A_drawM WideF.wide (.q 0 (.q 1 (.q 2 (.q 3 (.q 4 (.q 5 (.q 6 (.q 7 (.q 8 (.done [])))))))))) [] (by decide +kernel) ?_) | (refine D_ev rfl (Ev_loadH1 rfl (hcl 0 _ rfl)) rfl rfl ?_) | (refine D_ev rfl (Ev_loadH1 rfl (hcl2 0 _ rfl)) rfl rfl ?_) | (refine D_ev rfl (Ev_sneq rfl rfl) rfl rfl ?_; rw [decide_eq_false (fun h => h rfl)]) | refine O_nil ?_ | refine A_seq ?_ | refine A_region ?_ | refine A_skip ?_ | refine A_block ?_ | (show drJ _ _ _ _ _ _ _ (.q _ _) _; refine D_q rfl ?_) | (show drJ _ _ _ _ _ _ _ (.done _) _; refine D_done ?_; simp only [List.cons_append, List.nil_append]) | (show drQ _ _ _ _ _ _; first | refine D_ev rfl (Ev_pure rfl) rfl rfl ?_ | (show drQ _ _ _ ⟨_, .indexAddr _ _ _, _, _, _, _⟩ _ _; refine D_ev rfl (Ev_indexAddr rfl rfl (by omega) (by omega)) rfl rfl ?_)) | (show opsA _ _ _ _ _ _ _; first | refine O_ev WideF.wide rfl (Ev_pure rfl) rfl rfl ?_ | (show opsA _ _ _ _ (⟨_, .call _, _, _, _, _⟩ :: _) _ _; refine O_ev WideF.wide rfl (Ev_llen rfl) rfl rfl ?_) | (show opsA _ _ _ _ (⟨_, .binOp _ _ _ _ _, _, _, _, _⟩ :: _) _ _; refine O_ev WideF.wide rfl (Ev_add rfl rfl (wi64 (by omega))) rfl rfl ?_)) | (show wpA _ _ _ (.cond _ _ _) _ _ _ _; first | (refine A_if rfl (fun h => ?_) (fun h => ?_) <;> try (exfalso; omega)) | refine A_iffalse rfl ?_))
          all_goals first
            | (exfalso; omega)
            | (exfalso; contradiction)
            | (exfalso; exact absurd trivial (by assumption))
            | (exfalso; exact absurd rfl (by assumption))
            | exact Shift.to ⟨_, by omega, k + 1, Hq, _, _, _, rfl, by omega, hleq, hro, rfl⟩ ⟨rfl, rfl, rfl, ⟨rfl, rfl, rfl, rfl, rfl, rfl, trivial⟩, Own.sub_nil _⟩
            | trace_state
        · obtain rfl : k = n1 := by omega
          have hEo : EnvV (onlyL (nmL x) env) := fun b hb => hE b (onlyL_mem hb)
          have hol := hro.len
          rw [List.length_map] at hol
          have hob := onlyL_len (nmL x) env
          have hob2 : env.length * (nmL x).length ≤ 1048576 * 1048576 := Nat.mul_le_mul (by omega) (by omega)
          have k1 := kV _ (hle0.trans hleq)
          have k2 := fun Hx (h : HLe Hq Hx) => Eval_fn (hx.mono ((hle0.trans hleq).trans h)) (by omega) (hro.mono h) (by omega) hEo (hV.mono ((hle0.trans hleq).trans h))
          simp only [evl_only] at k2
          have hcq := hc0.mono hleq
          obtain ⟨⟨⟨wk, wn, wt⟩, ew⟩, hw⟩ : ∃ p, p = evl env x := ⟨_, rfl⟩
          simp only [← hw] at k1 k2
          repeat' (first | (show opsA _ _ _ _ (⟨some 85, .load _ _, _, _, _, _⟩ :: _) _ _; refine O_ev WideF.wide rfl (Ev_loadH rfl hcq rfl) rfl rfl ?_) | (show opsA _ _ _ _ (⟨some 87, .call _, _, _, _, _⟩ :: _) _ _; refine O_ef rfl (Ef_call (I := []) WideF.wide k1 ⟨rfl, rfl, trivial⟩ rfl ?_); rintro v10 H10 I10 hle10 ⟨rfl, rfl⟩) | (show opsA _ _ _ _ (⟨some 91, .load _ _, _, _, _, _⟩ :: _) _ _; refine O_ev WideF.wide rfl (Ev_loadH rfl (hcq.mono hle10) rfl) rfl rfl ?_) | (show opsA _ _ _ _ (⟨some 93, .call _, _, _, _, _⟩ :: _) _ _; refine O_ef rfl (Ef_call (I := []) WideF.wide (k2 _ hle10) ⟨rfl, rfl, trivial⟩ rfl ?_); rintro v11 H11 I11 hle11 ⟨rfl, rfl⟩) | (refine O_ev WideF.wide rfl (Ev_eqS rfl rfl Tryz.eqGuardType37 (eq_val ⟨wk, wn, wt⟩ ⟨wk, wn, wt⟩)) rfl rfl ?_) | refine O_nil ?_ | refine A_seq ?_ | refine A_region ?_ | refine A_ret ?_ | (show opsA _ _ _ _ _ _ _; first | (refine O_split rfl rfl (fun h => ?_) (fun h => ?_) <;> try (exfalso; omega)) | refine O_ev WideF.wide rfl (Ev_pure rfl) rfl rfl ?_ | (show opsA _ _ _ _ (⟨_, .load _ _, _, _, _, _⟩ :: _) _ _; first | refine O_ev WideF.wide rfl (Ev_loadB (i := 0) rfl rfl rfl) rfl rfl ?_ | refine O_ev WideF.wide rfl (Ev_loadB (i := 1) rfl rfl rfl) rfl rfl ?_) | (show opsA _ _ _ _ (⟨_, .call _, _, _, _, _⟩ :: _) _ _; refine O_ev WideF.wide rfl (Ev_llen rfl) rfl rfl ?_) | (show opsA _ _ _ _ (⟨_, .alloc _, _, _, _, _⟩ :: _) _ _; (refine O_ef rfl (Ef_alloc WideF.wide rfl ?_); intro b)) | (show opsA _ _ _ _ (⟨_, .store _ _ _, _, _, _, _⟩ :: _) _ _; refine O_ef rfl (Ef_storew WideF.wide rfl rfl rfl rfl rfl ?_)) | refine O_skip WideF.wide rfl rfl rfl ?_) | (show wpA _ _ _ (.exit _) _ _ _ _; refine A_exit rfl ?_) | (show wpA _ _ _ (.cond _ _ _) _ _ _ _; (refine A_if rfl (fun h => ?_) (fun h => ?_) <;> try (exfalso; omega))))
          all_goals first
            | (exfalso; omega)
            | (exfalso; contradiction)
            | (exfalso; exact absurd trivial (by assumption))
            | (exfalso; exact absurd rfl (by assumption))
            | exact End_e (Ret1 rfl rfl) ⟨rfl, rfl⟩
            | (refine End_e (Ret1 rfl rfl) ⟨?_, rfl⟩; simp; done)
            | trace_state

set_option maxRecDepth 100000 in
set_option maxHeartbeats 16000000 in
theorem Names_bad {H : Hp} {cs : List Value} {x : Nd} {ea : Option Addr} {en ec : Nat} {env : List Bnd} (hx : NodeH H cs x) (hm : x.mass < 1048576) (henv : HRow H ea en ec 4 (env.map bdrow)) (hen : en < 1048576) (hE : EnvV env) (hV : VarsH H) (h0 : ¬ chkE x = 0) :
    Fn Tryz.prog 11 [.agg cs.toArray, .slice ea en ec] H [] fun v _ I => v = .bool true ∧ I = [] := by
  have hone := hx.one
  have kK := fun Hx (h : HLe H Hx) => known_fn (hV.mono h)
  have kS := fun Hx (h : HLe H Hx) => lsmall_fn (hx.mono h) (by omega)
  have kF := fun Hx (h : HLe H Hx) => fine_fn (henv.mono h) (fun y hy => by have := (hE y hy).2; omega)
  have kP := fun Hx (h : HLe H Hx) => Names_fn (hx.mono h) hm
  have kC := fun Hx (h : HLe H Hx) => lcheck_fn (hx.mono h) (by omega)
  have kN := fun Hx (h : HLe H Hx) => ln_all (x.mass + 1) Hx cs x none 0 0 [] (hx.mono h) (by omega) (HRow.nil' Hx 1) (by omega)
  have kV := fun Hx (h : HLe H Hx) => Eval_fn (hx.mono h) (by omega) (henv.mono h) (by omega) hE (hV.mono h)
  have hLn := lnm_len x []
  rw [List.length_nil] at hLn
  have hnL : (nmL x).length ≤ 1048576 := by
    unfold nmL
    by_cases h : chkE x = 0
    · rw [if_pos h]; omega
    · rw [if_neg h]; exact Nat.zero_le _
  have hne0 : ¬ LCK [(x, 1)] 0 = 0 := fun h => h0 ((lck_chkE x).1 h)
  simp only [if_neg h0] at kP
  have hL : (nmL x).map srow = ([] : List (List UInt8)).map srow := by unfold nmL; rw [if_neg h0]
  obtain ⟨a, n, cp, rfl, hs⟩ := hx.cells
  refine Fn_of _ _ Tryz.func11 rfl Tryz.ntmps11 rfl fun c => ?_
  repeat' (first | (refine O_ef rfl (Ef_boxa WideF.wide (cs := [.int .i64 x.op, .int .i64 x.num, sv x.text, .slice a n cp]) rfl rfl ?_); intro b2; refine O_freezeBox hone ?_; intro H1 hle1 hc) | (show opsA _ _ _ _ (⟨some 15, .call _, _, _, _, _⟩ :: _) _ _; refine O_ef rfl (Ef_call (I := []) WideF.wide (kK _ hle1) trivial rfl ?_); rintro v2 H2 I2 hle2 ⟨rfl, rfl⟩) | (show opsA _ _ _ _ (⟨some 18, .load _ _, _, _, _, _⟩ :: _) _ _; refine O_ev WideF.wide rfl (Ev_loadH rfl (hc.mono hle2) rfl) rfl rfl ?_) | (show opsA _ _ _ _ (⟨some 19, .call _, _, _, _, _⟩ :: _) _ _; refine O_ef rfl (Ef_call (I := []) WideF.wide (kS _ (hle1.trans hle2)) ⟨rfl, trivial⟩ rfl ?_); rintro v3 H3 I3 hle3 ⟨⟨r3, rfl⟩, rfl⟩; cases r3) | (show opsA _ _ _ _ (⟨some 24, .call _, _, _, _, _⟩ :: _) _ _; refine O_ef rfl (Ef_call (I := []) WideF.wide (kF _ ((hle1.trans hle2).trans hle3)) ⟨rfl, trivial⟩ rfl ?_); rintro v4 H4 I4 hle4 ⟨⟨r4, rfl⟩, rfl⟩; cases r4) | (show opsA _ _ _ _ (⟨some 27, .call _, _, _, _, _⟩ :: _) _ _; refine O_ef rfl (Ef_call (I := []) WideF.wide (kK _ (by first | exact ((hle1.trans hle2).trans hle3).trans hle4 | exact (hle1.trans hle2).trans hle3)) trivial rfl ?_); rintro v5 H5 I5 hle5 ⟨rfl, rfl⟩) | (show opsA _ _ _ _ (⟨some 28, .load _ _, _, _, _, _⟩ :: _) _ _; refine O_ev WideF.wide rfl (Ev_loadH rfl (((hc.mono hle2).mono hle3).mono hle4) rfl) rfl rfl ?_) | (show opsA _ _ _ _ (⟨some 29, .call _, _, _, _, _⟩ :: _) _ _; refine O_ef rfl (Ef_call (I := []) WideF.wide (kP _ (((hle1.trans hle2).trans hle3).trans hle4)) ⟨rfl, trivial⟩ rfl ?_); rintro v6 H6 I6 hle6 ⟨⟨a1, n1, c1, rfl, hr1⟩, rfl⟩) | (show opsA _ _ _ _ (⟨some 30, .load _ _, _, _, _, _⟩ :: _) _ _; refine O_ev WideF.wide rfl (Ev_loadH rfl ((((hc.mono hle2).mono hle3).mono hle4).mono hle6) rfl) rfl rfl ?_) | (show opsA _ _ _ _ (⟨some 31, .call _, _, _, _, _⟩ :: _) _ _; refine O_ef rfl (Ef_call (I := []) WideF.wide (kC _ ((((hle1.trans hle2).trans hle3).trans hle4).trans hle6)) ⟨rfl, trivial⟩ rfl ?_); rintro v7 H7 I7 hle7 ⟨rfl, rfl⟩) | refine O_nil ?_ | refine A_seq ?_ | refine A_region ?_ | refine A_skip ?_ | refine A_ret ?_ | refine A_block ?_ | (show opsA _ _ _ _ _ _ _; first | refine O_ev WideF.wide rfl (Ev_pure rfl) rfl rfl ?_ | (show opsA _ _ _ _ (⟨_, .call _, _, _, _, _⟩ :: _) _ _; refine O_ev WideF.wide rfl (Ev_llen rfl) rfl rfl ?_) | (show opsA _ _ _ _ (⟨_, .unOp _ _ _, _, _, _, _⟩ :: _) _ _; refine O_ev WideF.wide rfl (Ev_notb rfl) rfl rfl ?_) | refine O_skip WideF.wide rfl rfl rfl ?_) | (show wpA _ _ _ (.cond _ _ _) _ _ _ _; first | (refine A_if rfl (fun h => ?_) (fun h => ?_) <;> try (exfalso; omega)) | refine A_iftrue rfl ?_ | refine A_iffalse rfl ?_))
  all_goals first
    | (exfalso; omega)
    | (exfalso; contradiction)
    | (exfalso; exact absurd trivial (by assumption))
    | (exfalso; exact absurd rfl (by assumption))
    | exact End_e (Ret1 rfl rfl) ⟨rfl, rfl⟩
    | skip
  · exfalso
    have e1 := hr1.len
    simp only [List.length_map, List.length_nil] at e1
    omega
  have hr1' : HRow H7 a1 n1 c1 1 ((nmL x).map srow) := (hr1.mono hle7).cong hL
  have hr2' : HRow H7 none 0 0 1 ((nmL x).map srow) := (HRow.nil' _ 1).cong hL
  have hle0 : HLe H H7 := (((((hle1.trans hle2).trans hle3).trans hle4).trans hle6).trans hle7)
  have hc0 := (((((hc.mono hle2).mono hle3).mono hle4).mono hle6).mono hle7)
  have hen0 := henv.mono hle0
  have hn1 := hr1'.len
  have hn2 := hr2'.len
  have hne := hen0.len
  rw [List.length_map] at hn1 hn2 hne
  have hn1b : n1 ≤ 1048576 := by omega
  refine A_nilrow 4 ?_
  refine A_loopu (fun q s => ∃ (i : Nat) (oa : Option Addr) (on oc : Nat) (css : List (List Value)), q = en - i ∧ i ≤ en ∧ css.length = on ∧ css = (onlyL (nmL x) (env.take i)).map bdrow ∧ s = ⟨104, [(1, .slice ea en ec), (2, .pointer (some ⟨b2, 0, none⟩)), (5, .slice a1 n1 c1), (6, .slice none 0 0), (7, .slice oa on oc), (8, .int .i64 i)], H7, [.row (.slice oa on oc) 4 css], [], []⟩) ?_ ?_
  · exact Shift.to ⟨_, 0, none, 0, 0, [], rfl, by omega, rfl, rfl, rfl⟩ ⟨rfl, rfl, rfl, ⟨rfl, rfl, rfl, rfl, rfl, rfl, trivial⟩, Own.subi [0] (by decide) rfl rfl⟩
  · rintro q s ⟨i, oa, on, oc, css, rfl, hi, hon, hcss, rfl⟩
    by_cases hlt : i < en
    · obtain ⟨eb, eo, bd, hbb, hbi, hcb⟩ := hen0.atm i hlt
      subst hbb
      unfold bdrow at hcb
      have htk := take_getN hbi
      repeat' (first | refine O_nil ?_ | refine A_seq ?_ | refine A_region ?_ | refine A_skip ?_ | refine A_block ?_ | (show opsA _ _ _ _ _ _ _; first | refine O_ev WideF.wide rfl (Ev_pure rfl) rfl rfl ?_ | (show opsA _ _ _ _ (⟨_, .call _, _, _, _, _⟩ :: _) _ _; refine O_ev WideF.wide rfl (Ev_llen rfl) rfl rfl ?_)) | (show wpA _ _ _ (.cond _ _ _) _ _ _ _; (refine A_if rfl (fun h => ?_) (fun h => ?_) <;> try (exfalso; omega))))
      all_goals try (exfalso; omega)
      refine A_loopu (fun q s => ∃ (k : Nat) (oa : Option Addr) (on oc : Nat) (css : List (List Value)), q = n1 - k ∧ k ≤ n1 ∧ css.length = on ∧ css = (onlyL (nmL x) (env.take i) ++ (((nmL x).take k).filter fun s => decide (bd.name = s)).map fun _ => bd).map bdrow ∧ s = ⟨104, [(1, .slice (some ⟨eb, eo, none⟩) en ec), (2, .pointer (some ⟨b2, 0, none⟩)), (5, .slice a1 n1 c1), (6, .slice none 0 0), (7, .slice oa on oc), (8, .int .i64 i), (9, .int .i64 k)], H7, [.row (.slice oa on oc) 4 css], [], []⟩) ?_ ?_
      · exact Shift.to ⟨_, 0, oa, on, oc, css, rfl, by omega, hon, by rw [hcss]; simp, rfl⟩ ⟨rfl, rfl, rfl, ⟨rfl, rfl, rfl, rfl, rfl, rfl, rfl, trivial⟩, Own.subi [0] (by decide) rfl rfl⟩
      · rintro q s ⟨k, oa, on, oc, css, rfl, hk, hon, hcss, rfl⟩
        by_cases hkl : k < n1
        · obtain ⟨lb, lo, y, hbb, hyk, hcl⟩ := hr1'.atm k hkl
          subst hbb
          unfold srow at hcl
          have hft := filt_take (s := bd.name) hyk
          have hcl1 := onlyL_len (nmL x) (env.take i)
          have hcl2 : (((nmL x).take k).filter fun s => decide (bd.name = s)).length ≤ k := Nat.le_trans (List.length_filter_le _ _) (by rw [List.length_take]; omega)
          have hcl3 : (env.take i).length ≤ 1048576 := by rw [List.length_take]; omega
          have hcl4 : (env.take i).length * (nmL x).length ≤ 1048576 * 1048576 := Nat.mul_le_mul hcl3 (by omega)
          have hcl5 : css.length ≤ 1099512676352 := by rw [hcss]; simp only [List.length_map, List.length_append]; omega
          by_cases hbn : bd.name = y
          · rw [if_pos hbn] at hft
            repeat' (first | refine O_nil ?_ | refine A_seq ?_ | refine A_region ?_ | (show opsA _ _ _ _ _ _ _; first | refine O_ev WideF.wide rfl (Ev_pure rfl) rfl rfl ?_ | (show opsA _ _ _ _ (⟨_, .call _, _, _, _, _⟩ :: _) _ _; refine O_ev WideF.wide rfl (Ev_llen rfl) rfl rfl ?_)) | (show wpA _ _ _ (.cond _ _ _) _ _ _ _; (refine A_if rfl (fun h => ?_) (fun h => ?_) <;> try (exfalso; omega))))
            all_goals first
              | (exfalso; omega)
              | (exfalso; contradiction)
              | (exfalso; exact absurd trivial (by assumption))
              | (exfalso; exact absurd rfl (by assumption))
              | exact Shift.to ⟨_, by omega, k + 1, _, _, _, css ++ [bdrow bd], rfl, by omega, by simp [hon], by rw [hft, hcss]; simp, rfl⟩ ⟨rfl, rfl, rfl, ⟨rfl, rfl, rfl, rfl, rfl, rfl, rfl, trivial⟩, Own.subi [0] (by decide) rfl rfl⟩
              | trace_state
          · rw [if_neg hbn, List.append_nil] at hft
            repeat' (first | refine O_nil ?_ | refine A_seq ?_ | refine A_region ?_ | (show opsA _ _ _ _ _ _ _; first | refine O_ev WideF.wide rfl (Ev_pure rfl) rfl rfl ?_ | (show opsA _ _ _ _ (⟨_, .call _, _, _, _, _⟩ :: _) _ _; refine O_ev WideF.wide rfl (Ev_llen rfl) rfl rfl ?_)) | (show wpA _ _ _ (.cond _ _ _) _ _ _ _; (refine A_if rfl (fun h => ?_) (fun h => ?_) <;> try (exfalso; omega))))
            all_goals first
              | (exfalso; omega)
              | (exfalso; contradiction)
              | (exfalso; exact absurd trivial (by assumption))
              | (exfalso; exact absurd rfl (by assumption))
              | exact Shift.to ⟨_, by omega, k + 1, _, _, _, css, rfl, by omega, hon, by rw [hft, hcss], rfl⟩ ⟨rfl, rfl, rfl, ⟨rfl, rfl, rfl, rfl, rfl, rfl, rfl, trivial⟩, Own.subi [0] (by decide) rfl rfl⟩
              | trace_state
        · obtain rfl : k = n1 := by omega
          rw [show (nmL x).take k = nmL x from List.take_of_length_le (by omega)] at hcss
          repeat' (first | refine O_nil ?_ | refine A_seq ?_ | refine A_region ?_ | (show opsA _ _ _ _ _ _ _; first | refine O_ev WideF.wide rfl (Ev_pure rfl) rfl rfl ?_ | (show opsA _ _ _ _ (⟨_, .call _, _, _, _, _⟩ :: _) _ _; refine O_ev WideF.wide rfl (Ev_llen rfl) rfl rfl ?_) | (show opsA _ _ _ _ (⟨_, .binOp _ _ _ _ _, _, _, _, _⟩ :: _) _ _; refine O_ev WideF.wide rfl (Ev_add rfl rfl (wi64 (by omega))) rfl rfl ?_)) | (show wpA _ _ _ (.exit _) _ _ _ _; refine A_exit rfl ?_) | (show wpA _ _ _ (.cond _ _ _) _ _ _ _; (refine A_if rfl (fun h => ?_) (fun h => ?_) <;> try (exfalso; omega))))
          all_goals first
            | (exfalso; omega)
            | (exfalso; contradiction)
            | (exfalso; exact absurd trivial (by assumption))
            | (exfalso; exact absurd rfl (by assumption))
            | exact Shift.to ⟨_, by omega, i + 1, _, _, _, css, rfl, by omega, hon, by rw [hcss, htk, onlyL_snoc], rfl⟩ ⟨rfl, rfl, rfl, ⟨rfl, rfl, rfl, rfl, rfl, rfl, trivial⟩, Own.subi [0] (by decide) rfl rfl⟩
            | trace_state
    · obtain rfl : i = en := by omega
      rw [List.take_of_length_le (by omega)] at hcss
      repeat' (first | refine O_nil ?_ | refine A_seq ?_ | refine A_region ?_ | refine A_block ?_ | (show opsA _ _ _ _ _ _ _; first | refine O_ev WideF.wide rfl (Ev_pure rfl) rfl rfl ?_ | (show opsA _ _ _ _ (⟨_, .call _, _, _, _, _⟩ :: _) _ _; refine O_ev WideF.wide rfl (Ev_llen rfl) rfl rfl ?_)) | (show wpA _ _ _ (.exit _) _ _ _ _; refine A_exit rfl ?_) | (show wpA _ _ _ (.cond _ _ _) _ _ _ _; (refine A_if rfl (fun h => ?_) (fun h => ?_) <;> try (exfalso; omega))))
      all_goals try (exfalso; omega)
      refine A_loopu (fun q s => ∃ (k : Nat) (Hq : Hp) (oa : Option Addr) (on oc : Nat), q = n1 - k ∧ k ≤ n1 ∧ HLe H7 Hq ∧ HRow Hq oa on oc 4 ((onlyL (nmL x) env).map bdrow) ∧ s = ⟨104, [(1, .slice ea i ec), (2, .pointer (some ⟨b2, 0, none⟩)), (5, .slice a1 n1 c1), (6, .slice none 0 0), (7, .slice oa on oc), (10, .int .i64 k)], Hq, [], [], []⟩) ?_ ?_
      · subst hcss
        exact Shift_freeze (bdrow_one _) fun H9 hle9 hr9 => Shift.to ⟨_, 0, H9, _, _, _, rfl, by omega, hle9, hr9, rfl⟩ ⟨rfl, rfl, rfl, ⟨rfl, rfl, rfl, rfl, rfl, rfl, trivial⟩, Own.sub_nil _⟩
      · rintro q s ⟨k, Hq, oa, on, oc, rfl, hk, hleq, hro, rfl⟩
        by_cases hkl : k < n1
        · obtain ⟨lb, lo, y, hbb, hyk, hcl⟩ := (hr1'.mono hleq).atm k hkl
          obtain ⟨lb2, lo2, y2, hbb2, hyk2, hcl2⟩ := (hr2'.mono hleq).atm k (by omega)
          obtain rfl : y2 = y := by rw [hyk] at hyk2; exact (Option.some.inj hyk2).symm
          cases hbb2
        · obtain rfl : k = n1 := by omega
          have hEo : EnvV (onlyL (nmL x) env) := fun b hb => hE b (onlyL_mem hb)
          have hol := hro.len
          rw [List.length_map] at hol
          have hob := onlyL_len (nmL x) env
          have hob2 : env.length * (nmL x).length ≤ 1048576 * 1048576 := Nat.mul_le_mul (by omega) (by omega)
          have k1 := kV _ (hle0.trans hleq)
          have k2 := fun Hx (h : HLe Hq Hx) => Eval_fn (hx.mono ((hle0.trans hleq).trans h)) (by omega) (hro.mono h) (by omega) hEo (hV.mono ((hle0.trans hleq).trans h))
          simp only [evl_only] at k2
          have hcq := hc0.mono hleq
          obtain ⟨⟨⟨wk, wn, wt⟩, ew⟩, hw⟩ : ∃ p, p = evl env x := ⟨_, rfl⟩
          simp only [← hw] at k1 k2
          repeat' (first | (show opsA _ _ _ _ (⟨some 85, .load _ _, _, _, _, _⟩ :: _) _ _; refine O_ev WideF.wide rfl (Ev_loadH rfl hcq rfl) rfl rfl ?_) | (show opsA _ _ _ _ (⟨some 87, .call _, _, _, _, _⟩ :: _) _ _; refine O_ef rfl (Ef_call (I := []) WideF.wide k1 ⟨rfl, rfl, trivial⟩ rfl ?_); rintro v10 H10 I10 hle10 ⟨rfl, rfl⟩) | (show opsA _ _ _ _ (⟨some 91, .load _ _, _, _, _, _⟩ :: _) _ _; refine O_ev WideF.wide rfl (Ev_loadH rfl (hcq.mono hle10) rfl) rfl rfl ?_) | (show opsA _ _ _ _ (⟨some 93, .call _, _, _, _, _⟩ :: _) _ _; refine O_ef rfl (Ef_call (I := []) WideF.wide (k2 _ hle10) ⟨rfl, rfl, trivial⟩ rfl ?_); rintro v11 H11 I11 hle11 ⟨rfl, rfl⟩) | (refine O_ev WideF.wide rfl (Ev_eqS rfl rfl Tryz.eqGuardType37 (eq_val ⟨wk, wn, wt⟩ ⟨wk, wn, wt⟩)) rfl rfl ?_) | refine O_nil ?_ | refine A_seq ?_ | refine A_region ?_ | refine A_ret ?_ | (show opsA _ _ _ _ _ _ _; first | (refine O_split rfl rfl (fun h => ?_) (fun h => ?_) <;> try (exfalso; omega)) | refine O_ev WideF.wide rfl (Ev_pure rfl) rfl rfl ?_ | (show opsA _ _ _ _ (⟨_, .load _ _, _, _, _, _⟩ :: _) _ _; first | refine O_ev WideF.wide rfl (Ev_loadB (i := 0) rfl rfl rfl) rfl rfl ?_ | refine O_ev WideF.wide rfl (Ev_loadB (i := 1) rfl rfl rfl) rfl rfl ?_) | (show opsA _ _ _ _ (⟨_, .call _, _, _, _, _⟩ :: _) _ _; refine O_ev WideF.wide rfl (Ev_llen rfl) rfl rfl ?_) | (show opsA _ _ _ _ (⟨_, .alloc _, _, _, _, _⟩ :: _) _ _; (refine O_ef rfl (Ef_alloc WideF.wide rfl ?_); intro b)) | (show opsA _ _ _ _ (⟨_, .store _ _ _, _, _, _, _⟩ :: _) _ _; refine O_ef rfl (Ef_storew WideF.wide rfl rfl rfl rfl rfl ?_)) | refine O_skip WideF.wide rfl rfl rfl ?_) | (show wpA _ _ _ (.exit _) _ _ _ _; refine A_exit rfl ?_) | (show wpA _ _ _ (.cond _ _ _) _ _ _ _; (refine A_if rfl (fun h => ?_) (fun h => ?_) <;> try (exfalso; omega))))
          all_goals first
            | (exfalso; omega)
            | (exfalso; contradiction)
            | (exfalso; exact absurd trivial (by assumption))
            | (exfalso; exact absurd rfl (by assumption))
            | exact End_e (Ret1 rfl rfl) ⟨rfl, rfl⟩
            | (refine End_e (Ret1 rfl rfl) ⟨?_, rfl⟩; simp; done)
            | trace_state

theorem FormulaNames_fn {H : Hp} {cs : List Value} {x : Nd} {ea : Option Addr} {en ec : Nat} {env : List Bnd} (hx : NodeH H cs x) (hm : x.mass < 1048576) (henv : HRow H ea en ec 4 (env.map bdrow)) (hen : en < 1048576) (hE : EnvV env) (hV : VarsH H) :
    Fn Tryz.prog 11 [.agg cs.toArray, .slice ea en ec] H [] fun v _ I => v = .bool true ∧ I = [] := by
  by_cases h0 : chkE x = 0
  · exact Names_ok hx hm henv hen hE hV h0
  · exact Names_bad hx hm henv hen hE hV h0
end Go.Proofs.YtnoadopmeoohmaaGreatDoor
