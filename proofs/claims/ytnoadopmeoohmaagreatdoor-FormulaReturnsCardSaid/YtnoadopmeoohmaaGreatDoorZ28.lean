import Derived.Test.YtnoadopmeoohmaaGreatDoorZ26
import Derived.Test.YtnoadopmeoohmaaGreatDoorZ27
/-
  write at every node, Print.
-/
namespace Go.Proofs.YtnoadopmeoohmaaGreatDoor
open Go
set_option linter.unusedVariables false
set_option linter.unusedSimpArgs false
theorem index34_lt : ∀ s : List UInt8, Lib.index s [34] < s.length ∨ s = []
  | [] => .inr rfl
  | b :: l => by
    refine .inl ?_
    rw [Lib.index]
    simp only [List.length_cons]
    split
    · omega
    · rename_i h0
      split
      · omega
      · rename_i h1
        rcases index34_lt l with h | rfl
        · omega
        · exact absurd rfl h1
theorem replaceK_le : ∀ (k : Nat) (s : List UInt8), (Lib.replaceK [34] [34, 34] k s).length ≤ 2 * s.length
  | 0, s => by rw [Lib.replaceK]; omega
  | k + 1, s => by
    rw [Lib.replaceK]
    split
    · omega
    · rename_i h
      have h1 := Lib.index_ge s [34]
      have h2 : Lib.index s [34] ≠ -1 := fun e => h (by rw [e]; rfl)
      have ih := replaceK_le k (s.drop ((Lib.index s [34]).toNat + [(34 : UInt8)].length))
      rcases index34_lt s with h3 | rfl
      · simp only [List.length_append, List.length_take, List.length_drop, List.length_cons, List.length_nil] at ih ⊢
        omega
      · exact absurd rfl h2
theorem replaceAll_le (s : List UInt8) : (Lib.replaceAll s [34] [34, 34]).length ≤ 2 * s.length := by
  unfold Lib.replaceAll Lib.replace
  rw [if_neg (by decide)]
  exact replaceK_le _ _
theorem wordL_len (i : Nat) : (wordL.getD i []).length ≤ 3 := by
  by_cases h : i < 21
  · have : ∀ j : Fin 21, (wordL.getD j.1 []).length ≤ 3 := by decide
    exact this ⟨i, h⟩
  · rw [List.getD, List.getElem?_eq_none (by show 21 ≤ i; omega)]
    decide
theorem stl_len (op : Int) : (stl op).1.length ≤ 4 := by
  have h := wordL_len op.toNat
  unfold stl
  repeat' split
  all_goals first
    | (show ([] : List UInt8).length ≤ 4; decide)
    | (show (wordL.getD op.toNat []).length ≤ 4; omega)
    | (show ([110, 111, 116, 32] : List UInt8).length ≤ 4; decide)
    | (show ([45] : List UInt8).length ≤ 4; decide)
theorem jn_len : ∀ l : List Nd, (∀ y ∈ l, ∀ lv, (wr y lv).length + 32 ≤ 64 * y.mass) → ((l.map fun y => wr y 0).flatMap fun y => 44 :: 32 :: y).length ≤ 64 * massN l
  | [], _ => by simp
  | x :: l, h => by
    have h1 := h x (by simp) 0
    have h2 := jn_len l fun y hy => h y (List.mem_cons_of_mem _ hy)
    simp only [List.map_cons, List.flatMap_cons, List.length_append, List.length_cons, massN]
    omega
theorem jn_len' (l : List Nd) (h : ∀ y ∈ l, ∀ lv, (wr y lv).length + 32 ≤ 64 * y.mass) : (jn (l.map fun y => wr y 0)).length ≤ 64 * massN l := by
  cases l with
  | nil => simp [jn]
  | cons x l =>
    have h1 := h x (by simp) 0
    have h2 := jn_len l fun y hy => h y (List.mem_cons_of_mem _ hy)
    simp only [List.map_cons, jn, List.length_append, massN]
    omega
theorem get_len (l : List Nd) (h : ∀ y ∈ l, ∀ lv, (wr y lv).length + 32 ≤ 64 * y.mass) (q r : Int) : (((l.map wr).getD 0 fun _ => []) q).length + (((l.map wr).getD 1 fun _ => []) r).length ≤ 64 * massN l := by
  match l, h with
  | [], _ => simp
  | [x], h =>
    have h1 := h x (by simp) q
    simp only [List.map_cons, List.map_nil, List.getD_cons_zero, List.getD_cons_succ, List.getD_nil, List.length_nil, massN]
    omega
  | x :: y :: l, h =>
    have h1 := h x (by simp) q
    have h2 := h y (by simp) r
    simp only [List.map_cons, List.getD_cons_zero, List.getD_cons_succ, massN]
    omega
theorem bod_len (op num : Int) (text : List UInt8) (l : List Nd) (hn : I64 num) (h : ∀ y ∈ l, ∀ lv, (wr y lv).length + 32 ≤ 64 * y.mass) : (bod op num text (l.map wr)).length + 34 ≤ 64 * (1 + text.length + massN l) := by
  have h1 := itoa_len hn
  have h2 := replaceAll_le text
  have h3 := jn_len' l h
  have h4 := get_len l h (stl op).2.2.1 (stl op).2.2.2
  have h5 := stl_len op
  have h6 : (fbool (decide (num = 1))).length ≤ 5 := by cases decide (num = 1) <;> decide
  unfold bod
  split
  · omega
  split
  · omega
  split
  · simp only [List.length_append, List.length_cons, List.length_nil]; omega
  split
  · omega
  split
  · rw [List.map_map]
    have h7 : (jn (List.map ((fun f => f 0) ∘ wr) l)).length ≤ 64 * massN l := h3
    simp only [List.length_append, List.length_cons, List.length_nil]; omega
  split
  · simp only [List.length_append]; omega
  · simp only [List.length_append, List.length_cons]; omega
theorem par_len (b : Bool) (t : List UInt8) : (par b t).length ≤ t.length + 2 := by
  unfold par
  split
  · simp
  · omega
mutual
theorem wr_len : ∀ x : Nd, okN x → ∀ lv, (wr x lv).length + 32 ≤ 64 * x.mass
  | .mk op num text args, h, lv => by
    rw [okN] at h
    have h1 := wrL_len args h.2
    have h2 := chkT_num h.1
    have h3 := bod_len op num text args ⟨by omega, by omega⟩ h1
    have h4 := par_len (decide ((stl op).2.1 < lv)) (bod op num text (args.map wr))
    rw [wr, wrL_map, Nd.mass]
    show (par (decide ((stl op).2.1 < lv)) (bod op num text (args.map wr))).length + 32 ≤ _
    omega
theorem wrL_len : ∀ l : List Nd, okL l → ∀ y ∈ l, ∀ lv, (wr y lv).length + 32 ≤ 64 * y.mass
  | [], _ => fun y hy => absurd hy (by simp)
  | x :: l, h => fun y hy lv => by
    rw [okL] at h
    rcases List.mem_cons.1 hy with e | hy
    · rw [e]; exact wr_len x h.1 lv
    · exact wrL_len l h.2 y hy lv
end
theorem wr_all : ∀ (N : Nat) (H : Hp) (x : Nd), x.mass < N → okN x → VarsH H → WrN H x
  | 0 => fun _ x h => absurd h (by omega)
  | N + 1 => fun H x hm hok hV H' cs lv pb l I hle hx hB hl => by
    obtain ⟨a, n, cp, rfl, hs⟩ := hx.cells
    have hlen := hs.len
    have e3 := x.mass_eq
    have hok' := (okN_eq x).1 hok
    have hall := (okL_all _).1 hok'.2
    have ka : ∀ y ∈ x.args, WrN H' y := fun y hy => by
      obtain ⟨i, hi⟩ := List.mem_iff_getElem?.1 hy
      have := massN_get hi
      exact wr_all N H' y (by omega) (hall y hy) (hV.mono hle)
    rw [wr_eq] at hl ⊢
    obtain ⟨bb, hbb⟩ : ∃ bb, bb = decide ((stl x.op).2.1 < lv) := ⟨_, rfl⟩
    rw [← hbb] at hl ⊢
    have hT : bb = true → (stl x.op).2.1 < lv := fun h => of_decide_eq_true (hbb.symm.trans h)
    have hF : bb = false → ¬ (stl x.op).2.1 < lv := fun h => of_decide_eq_false (hbb.symm.trans h)
    clear hbb
    have hV' := hV.mono hle
    obtain ⟨op, num, text, args⟩ := x
    have hch : chkT op num text (args.length : Int) = 0 := hok'.1
    have hargs := chkT_args hch
    have hnum := chkT_num hch
    have htxt := chkT_txt hch
    have hI : I64 num := ⟨by omega, by omega⟩
    dsimp only [Nd.op, Nd.num, Nd.text, Nd.args] at hs hlen ka hl hT hF ⊢
    rw [hlen] at hargs
    by_cases h1 : op = 1
    · subst h1
      cases bb with
      | true => exact write_1p hs hB hI (hT rfl) hl
      | false => exact write_1q hs hB hI (hF rfl) hl
    by_cases h3 : op = 3
    · subst h3
      cases bb with
      | true => exact write_3p hs hB (hT rfl) hl
      | false => exact write_3q hs hB (hF rfl) hl
    by_cases h2 : op = 2
    · subst h2
      cases bb with
      | true => exact write_2p hs hB (htxt rfl) hV' (hT rfl) hl
      | false => exact write_2q hs hB (htxt rfl) hV' (hF rfl) hl
    by_cases h4 : op = 4
    · subst h4
      cases bb with
      | true => exact write_4p hs hB (hT rfl) hl
      | false => exact write_4q hs hB (hF rfl) hl
    by_cases h5 : op = 5
    · subst h5
      obtain ⟨lo, hi, hf, hlo, hhi⟩ := hargs.2.2.2 rfl
      have hfl := fnArg_lo hf
      cases bb with
      | true => exact write_5p (by omega) hs hB ka (hT rfl) hl
      | false => exact write_5q (by omega) hs hB ka (hF rfl) hl
    have hn := hargs.2.2.1 h5
    by_cases h8 : op = 8 ∨ op = 21
    · obtain rfl : n = 1 := by
        have : arityN op = 1 := by unfold arityN; rw [if_neg (by omega), if_pos h8]
        omega
      match args, hlen, hs, ka, hl with
      | [y0], _, hs, ka, hl =>
        rcases h8 with rfl | rfl
        · cases bb with
          | true => exact write_8p hs hB (ka y0 (by simp)) (hT rfl) hl
          | false => exact write_8q hs hB (ka y0 (by simp)) (hF rfl) hl
        · cases bb with
          | true => exact write_21p hs hB (ka y0 (by simp)) (hT rfl) hl
          | false => exact write_21q hs hB (ka y0 (by simp)) (hF rfl) hl
    · obtain rfl : n = 2 := by
        have : arityN op = 2 := by unfold arityN; rw [if_neg (by omega), if_neg h8]
        omega
      match args, hlen, hs, ka, hl with
      | [y0, y1], _, hs, ka, hl =>
        cases bb with
        | true => exact write_binp ⟨by omega, by omega, by omega⟩ hs hB (ka y0 (by simp)) (ka y1 (by simp)) (hT rfl) hl
        | false => exact write_binq ⟨by omega, by omega, by omega⟩ hs hB (ka y0 (by simp)) (ka y1 (by simp)) (hF rfl) hl
/-- what Print gives -/
noncomputable def prT (x : Nd) : List UInt8 × Int := if chkE x ≠ 0 then ([], chkE x) else if 1024 < (wr x 0).length then ([], 10) else (wr x 0, 0)
attribute [local irreducible] wpA opsA drJ drQ drE Ef Ev Shift Fn
set_option maxRecDepth 100000 in
set_option maxHeartbeats 1600000 in
theorem Print_fn {H : Hp} {cs : List Value} {x : Nd} (hx : NodeH H cs x) (hm : x.mass < 34359738368) (hV : VarsH H) :
    Fn Tryz.prog 19 [.agg cs.toArray] H [] fun v _ I => v = .tuple [sv (prT x).1, .int .i64 (prT x).2].toArray ∧ I = [] := by
  have hone := hx.one
  have kc := fun Hx (hle : HLe H Hx) => Check_fn (hx.mono hle) hm
  have kv := fun (h : chkE x = 0) => wr_all (x.mass + 1) H x (by omega) (chkE_ok h) hV
  have hwl := fun (h : chkE x = 0) => wr_len x (chkE_ok h) 0
  obtain ⟨a, n, cp, rfl, hs⟩ := hx.cells
  unfold prT
  by_cases h0 : chkE x = 0
  · rw [if_neg (fun h => h h0)]
    rw [h0] at kc
    have kv := kv h0
    have hwl := hwl h0
    have kw := fun Hx (hle : HLe H Hx) b (J : Own) (hJ : BldIs b [] J) => kv Hx _ 0 b [] J hle (hx.mono hle) hJ (by simp only [List.length_nil]; omega)
    by_cases hb : 1024 < (wr x 0).length
    · rw [if_pos hb]
      refine Fn_of _ _ Tryz.func19 rfl Tryz.ntmps19 rfl fun c => ?_
      repeat' (first | (refine O_ef rfl (Ef_boxa WideF.wide (cs := [.int .i64 x.op, .int .i64 x.num, sv x.text, .slice _ _ _]) rfl rfl ?_); intro b9; refine O_freezeBox hone ?_; intro H1 hle1 hc) | (refine O_ef rfl (Ef_call (I := []) WideF.wide (kc _ hle1) ⟨rfl, trivial⟩ rfl ?_); rintro v2 H2 I2 hle2 ⟨rfl, rfl⟩) | (refine O_ev WideF.wide rfl (Ev_loadH rfl (hc.mono hle2) rfl) rfl rfl ?_) | (refine O_ev WideF.wide rfl (Ev_loadH rfl hc rfl) rfl rfl ?_) | (refine O_ef rfl (Ef_allocO WideF.wide rfl ?_); intro b3) | (refine O_ef rfl (Ef_call0 WideF.wide (kw _ (hle1.trans hle2) b3 _ (BldIs.new b3)) ⟨rfl, rfl, rfl, trivial⟩ rfl ?_); rintro v3 H3 I3 hle3 hB3) | (refine O_ef rfl (Ef_call0 WideF.wide (Len_fn hB3) ⟨rfl, trivial⟩ rfl ?_); rintro v4 H4 I4 hle4 ⟨rfl, rfl, hB4⟩) | refine O_nil ?_ | refine A_seq ?_ | refine A_region ?_ | refine A_skip ?_ | refine A_ret ?_ | (show opsA _ _ _ _ _ _ _; refine O_ev WideF.wide rfl (Ev_pure rfl) rfl rfl ?_) | (show wpA _ _ _ (.cond _ _ _) _ _ _ _; (refine A_if rfl (fun h => ?_) (fun h => ?_) <;> try (exfalso; omega))))
      all_goals first
        | (exfalso; simp only [List.nil_append] at *; omega)
        | (exfalso; contradiction)
        | (exfalso; exact absurd trivial (by assumption))
        | (exfalso; exact absurd rfl (by assumption))
        | exact End_e (Ret2 rfl rfl rfl) ⟨rfl, rfl⟩
        | trace_state
    · rw [if_neg hb]
      refine Fn_of _ _ Tryz.func19 rfl Tryz.ntmps19 rfl fun c => ?_
      repeat' (first | (refine O_ef rfl (Ef_boxa WideF.wide (cs := [.int .i64 x.op, .int .i64 x.num, sv x.text, .slice _ _ _]) rfl rfl ?_); intro b9; refine O_freezeBox hone ?_; intro H1 hle1 hc) | (refine O_ef rfl (Ef_call (I := []) WideF.wide (kc _ hle1) ⟨rfl, trivial⟩ rfl ?_); rintro v2 H2 I2 hle2 ⟨rfl, rfl⟩) | (refine O_ev WideF.wide rfl (Ev_loadH rfl (hc.mono hle2) rfl) rfl rfl ?_) | (refine O_ev WideF.wide rfl (Ev_loadH rfl hc rfl) rfl rfl ?_) | (refine O_ef rfl (Ef_allocO WideF.wide rfl ?_); intro b3) | (refine O_ef rfl (Ef_call0 WideF.wide (kw _ (hle1.trans hle2) b3 _ (BldIs.new b3)) ⟨rfl, rfl, rfl, trivial⟩ rfl ?_); rintro v3 H3 I3 hle3 hB3) | (refine O_ef rfl (Ef_call0 WideF.wide (Len_fn hB3) ⟨rfl, trivial⟩ rfl ?_); rintro v4 H4 I4 hle4 ⟨rfl, rfl, hB4⟩) | (refine O_ef rfl (Ef_call0 WideF.wide (String_fn _ _ _ _ hB4 (by simp only [List.nil_append]; omega)) ⟨rfl, trivial⟩ rfl ?_); rintro v5 H5 I5 hle5 ⟨rfl, rfl, rfl⟩) | refine O_nil ?_ | refine A_seq ?_ | refine A_region ?_ | refine A_skip ?_ | refine A_ret ?_ | (show opsA _ _ _ _ _ _ _; refine O_ev WideF.wide rfl (Ev_pure rfl) rfl rfl ?_) | (show wpA _ _ _ (.cond _ _ _) _ _ _ _; (refine A_if rfl (fun h => ?_) (fun h => ?_) <;> try (exfalso; omega))))
      all_goals first
        | (exfalso; simp only [List.nil_append] at *; omega)
        | (exfalso; contradiction)
        | (exfalso; exact absurd trivial (by assumption))
        | (exfalso; exact absurd rfl (by assumption))
        | exact End_e (Ret2 rfl rfl rfl) ⟨rfl, rfl⟩
        | trace_state
  · rw [if_pos h0]
    refine Fn_of _ _ Tryz.func19 rfl Tryz.ntmps19 rfl fun c => ?_
    repeat' (first | (refine O_ef rfl (Ef_boxa WideF.wide (cs := [.int .i64 x.op, .int .i64 x.num, sv x.text, .slice _ _ _]) rfl rfl ?_); intro b9; refine O_freezeBox hone ?_; intro H1 hle1 hc) | (refine O_ef rfl (Ef_call (I := []) WideF.wide (kc _ hle1) ⟨rfl, trivial⟩ rfl ?_); rintro v2 H2 I2 hle2 ⟨rfl, rfl⟩) | (refine O_ev WideF.wide rfl (Ev_loadH rfl hc rfl) rfl rfl ?_) | refine O_nil ?_ | refine A_seq ?_ | refine A_region ?_ | refine A_ret ?_ | (show opsA _ _ _ _ _ _ _; refine O_ev WideF.wide rfl (Ev_pure rfl) rfl rfl ?_) | (show wpA _ _ _ (.cond _ _ _) _ _ _ _; (refine A_if rfl (fun h => ?_) (fun h => ?_) <;> try (exfalso; omega))))
    all_goals first
      | (exfalso; omega)
      | (exfalso; contradiction)
      | (exfalso; exact absurd trivial (by assumption))
      | (exfalso; exact absurd rfl (by assumption))
      | exact End_e (Ret2 rfl rfl rfl) ⟨rfl, rfl⟩
      | trace_state
end Go.Proofs.YtnoadopmeoohmaaGreatDoor
