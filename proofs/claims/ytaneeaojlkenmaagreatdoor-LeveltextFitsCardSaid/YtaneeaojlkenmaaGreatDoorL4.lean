/-
  The scanner: digit, flush, place.
-/
import Derived.Test.YtaneeaojlkenmaaGreatDoorL3
namespace Go.Proofs.YtaneeaojlkenmaaGreatDoor
open Go
set_option linter.unusedVariables false
set_option linter.unusedSimpArgs false
theorem bat_at {l : List UInt8} {i : Nat} (hi : i < l.length) : bat l i = (l[i].toNat : Int) := by simp [bat, List.getD, hi]
theorem Shift_perm {c : Ctx} {K : SP} {n : Nat} {e : Env} {H : Hp} {M M' L : Own} {D : List Deferred} (h : M.Perm M') (k : Shift c K ⟨n, e, H, M', L, D⟩) : Shift c K ⟨n, e, H, M, L, D⟩ := fun a w hs => k a w ⟨hs.defers, hs.size, hs.env, own_perm (h.append_right L) hs.holds⟩
theorem Fn.lend {P : Program} {f : FuncId} {args : List Value} {H : Hp} {I : Own} {Q : Value → Prop} (h : Fn P f args H I fun v H' I' => Q v ∧ H' = H ∧ I' = I) {J R : Own} (hp : J.Perm (I ++ R)) : Fn P f args H J fun v H' J' => Q v ∧ H' = H ∧ J' = J := fun w hw =>
  (Calls_of_Fn h (own_perm hp hw)).mono fun _ _ ⟨v, H', I', he, _, hh, hq, h1, h2⟩ => ⟨v, H', J, he, own_perm (by subst h2; exact hp.symm) hh, hq, h1, rfl⟩
attribute [local irreducible] wpA opsA drJ drQ drE Ef Ev Shift Fn
set_option maxRecDepth 100000 in
theorem digit_fn {H : Hp} {b : Nat} {s : List UInt8} {x1 x2 x3 x4 x5 x6 : Value} {i : Nat} (hs : s.length ≤ 1000) (hi : i ≤ 2000) :
    Fn Tryz.prog 75 [.pointer (some ⟨b, 0, none⟩), .int .i64 i] H [.obj b (cobj [sv s, x1, x2, x3, x4, x5, x6] scT)] fun v H' I' => v = .bool (decide (∃ c, s[i]? = some c ∧ dig c)) ∧ H' = H ∧ I' = [.obj b (cobj [sv s, x1, x2, x3, x4, x5, x6] scT)] := by
  by_cases h : i < s.length
  · have e : decide (∃ c, s[i]? = some c ∧ dig c) = (decide (49 ≤ bat s i) && decide (bat s i ≤ 57)) := by
      rw [bat_at h, List.getElem?_eq_getElem h, ← Bool.decide_and, decide_eq_decide]
      constructor
      · rintro ⟨c, hc, h1, h2⟩; cases hc; omega
      · rintro ⟨h1, h2⟩; exact ⟨_, rfl, by omega, by omega⟩
    rw [e]
    by_cases h1 : 49 ≤ bat s i
    · refine Fn_of _ _ Tryz.func75 rfl Tryz.ntmps75 rfl fun c => ?_
      repeat' (first | refine O_nil ?_ | refine A_seq ?_ | refine A_region ?_ | refine A_ret ?_ | (show opsA _ _ _ _ _ _ _; first | (refine O_split rfl rfl (fun h => ?_) (fun h => ?_) <;> try (exfalso; omega)) | refine O_ev WideF.wide rfl (Ev_pure rfl) rfl rfl ?_ | (show opsA _ _ _ _ (⟨_, .load _ _, _, _, _, _⟩ :: _) _ _; refine O_ev WideF.wide rfl (Ev_loadO1 (i := 0) rfl rfl rfl) rfl rfl ?_) | (show opsA _ _ _ _ (⟨_, .fieldAddr _ _ _, _, _, _, _⟩ :: _) _ _; refine O_ev WideF.wide rfl (Ev_fieldAddr rfl rfl rfl) rfl rfl ?_) | (show opsA _ _ _ _ (⟨_, .call _, _, _, _, _⟩ :: _) _ _; refine O_ev WideF.wide rfl (Ev_slen rfl) rfl rfl ?_) | (show opsA _ _ _ _ (⟨_, .index _ _ _, _, _, _, _⟩ :: _) _ _; refine O_ev WideF.wide rfl (Ev_sindex rfl rfl (by omega) (by omega)) rfl rfl ?_) | (show opsA _ _ _ _ (⟨_, .nilCheck _, _, _, _, _⟩ :: _) _ _; refine O_ev WideF.wide rfl (Ev_nilCheck rfl) rfl rfl ?_)))
      all_goals first
        | (exfalso; omega)
        | exact End_m (Ret1 rfl rfl) ⟨by rw [decide_eq_true h1, Bool.true_and], rfl, rfl⟩
    · refine Fn_of _ _ Tryz.func75 rfl Tryz.ntmps75 rfl fun c => ?_
      repeat' (first | refine O_nil ?_ | refine A_seq ?_ | refine A_region ?_ | refine A_ret ?_ | (show opsA _ _ _ _ _ _ _; first | (refine O_split rfl rfl (fun h => ?_) (fun h => ?_) <;> try (exfalso; omega)) | refine O_ev WideF.wide rfl (Ev_pure rfl) rfl rfl ?_ | (show opsA _ _ _ _ (⟨_, .load _ _, _, _, _, _⟩ :: _) _ _; refine O_ev WideF.wide rfl (Ev_loadO1 (i := 0) rfl rfl rfl) rfl rfl ?_) | (show opsA _ _ _ _ (⟨_, .fieldAddr _ _ _, _, _, _, _⟩ :: _) _ _; refine O_ev WideF.wide rfl (Ev_fieldAddr rfl rfl rfl) rfl rfl ?_) | (show opsA _ _ _ _ (⟨_, .call _, _, _, _, _⟩ :: _) _ _; refine O_ev WideF.wide rfl (Ev_slen rfl) rfl rfl ?_) | (show opsA _ _ _ _ (⟨_, .index _ _ _, _, _, _, _⟩ :: _) _ _; refine O_ev WideF.wide rfl (Ev_sindex rfl rfl (by omega) (by omega)) rfl rfl ?_) | (show opsA _ _ _ _ (⟨_, .nilCheck _, _, _, _, _⟩ :: _) _ _; refine O_ev WideF.wide rfl (Ev_nilCheck rfl) rfl rfl ?_) | refine O_skip WideF.wide rfl rfl rfl ?_))
      all_goals first
        | (exfalso; omega)
        | exact End_m (Ret1 rfl rfl) ⟨by rw [decide_eq_false h1, Bool.false_and], rfl, rfl⟩
  · have e : decide (∃ c, s[i]? = some c ∧ dig c) = false := by
      rw [decide_eq_false_iff_not]
      rintro ⟨c, hc, _⟩
      exact h (List.getElem?_eq_some_iff.1 hc).1
    rw [e]
    refine Fn_of _ _ Tryz.func75 rfl Tryz.ntmps75 rfl fun c => ?_
    repeat' (first | refine O_nil ?_ | refine A_seq ?_ | refine A_region ?_ | refine A_ret ?_ | (show opsA _ _ _ _ _ _ _; first | (refine O_split rfl rfl (fun h => ?_) (fun h => ?_) <;> try (exfalso; omega)) | refine O_ev WideF.wide rfl (Ev_pure rfl) rfl rfl ?_ | (show opsA _ _ _ _ (⟨_, .load _ _, _, _, _, _⟩ :: _) _ _; refine O_ev WideF.wide rfl (Ev_loadO1 (i := 0) rfl rfl rfl) rfl rfl ?_) | (show opsA _ _ _ _ (⟨_, .fieldAddr _ _ _, _, _, _, _⟩ :: _) _ _; refine O_ev WideF.wide rfl (Ev_fieldAddr rfl rfl rfl) rfl rfl ?_) | (show opsA _ _ _ _ (⟨_, .call _, _, _, _, _⟩ :: _) _ _; refine O_ev WideF.wide rfl (Ev_slen rfl) rfl rfl ?_) | (show opsA _ _ _ _ (⟨_, .nilCheck _, _, _, _, _⟩ :: _) _ _; refine O_ev WideF.wide rfl (Ev_nilCheck rfl) rfl rfl ?_) | refine O_skip WideF.wide rfl rfl rfl ?_))
    all_goals first
      | (exfalso; omega)
      | exact End_m (Ret1 rfl rfl) ⟨rfl, rfl, rfl⟩
/-- the scanner: its string, where it stands, the literal string that was begun, the parts, the places and the error -/
def Scn (b : Nat) (s : List UInt8) (i : Int) (lit : List UInt8) (parts : List Pt) (pl e : Int) (I : Own) : Prop :=
  ∃ (a : Option Addr) (c : Nat) (I0 : Own), ScB b (sv s) (.int .i64 i) (.slice a parts.length c) (.int .i64 pl) (.int .i64 e) lit I0 ∧ I = .row (.slice a parts.length c) 3 (parts.map prow) :: I0
set_option maxRecDepth 100000 in
theorem flush_fn {H : Hp} {b : Nat} {s lit : List UInt8} {i pl e : Int} {parts : List Pt} {I : Own} (hI : Scn b s i lit parts pl e I) (hl : lit.length ≤ 1000000) (hp : parts.length ≤ 1000000) :
    Fn Tryz.prog 60 [.pointer (some ⟨b, 0, none⟩)] H I fun _ H' I' => H' = H ∧ Scn b s i [] (fls parts lit) pl e I' := by
  obtain ⟨a, cq, I0, hB, rfl⟩ := hI
  have hlen := fun Hx => Len_fn (H := Hx) hB
  by_cases h0 : lit = []
  · subst h0
    refine Fn_of _ _ Tryz.func60 rfl Tryz.ntmps60 rfl fun c => ?_
    repeat' (first | (refine O_ef rfl (Ef_call1 WideF.wide (hlen _) ⟨rfl, trivial⟩ rfl ?_); rintro v1 H1 I1 hle1 ⟨rfl, rfl, hB1⟩) | refine O_nil ?_ | refine A_seq ?_ | refine A_region ?_ | refine A_skip ?_ | (show opsA _ _ _ _ _ _ _; first | refine O_ev WideF.wide rfl (Ev_pure rfl) rfl rfl ?_ | (show opsA _ _ _ _ (⟨_, .fieldAddr _ _ _, _, _, _, _⟩ :: _) _ _; refine O_ev WideF.wide rfl (Ev_fieldAddr rfl rfl rfl) rfl rfl ?_) | (show opsA _ _ _ _ (⟨_, .nilCheck _, _, _, _, _⟩ :: _) _ _; refine O_ev WideF.wide rfl (Ev_nilCheck rfl) rfl rfl ?_)) | (show wpA _ _ _ (.cond _ _ _) _ _ _ _; (refine A_if rfl (fun h => ?_) (fun h => ?_) <;> try (exfalso; omega))))
    all_goals first
      | (exfalso; simp at *; done)
      | exact End_m (Ret0 rfl) ⟨rfl, by unfold fls; rw [if_pos rfl]; exact ⟨a, cq, I1, hB1, rfl⟩⟩
  · have hpos : 0 < lit.length := List.length_pos_iff.2 h0
    refine Fn_of _ _ Tryz.func60 rfl Tryz.ntmps60 rfl fun c => ?_
    repeat' (first | (refine O_ef rfl (Ef_call1 WideF.wide (hlen _) ⟨rfl, trivial⟩ rfl ?_); rintro v1 H1 I1 hle1 ⟨rfl, rfl, ⟨p1, v1, R1, hp1, hB1, rfl⟩⟩) | (refine A_drawM WideF.wide (.p 0 (.q 1 (.q 2 (.q 3 (.q 5 (.q 6 (.q 7 (.f 4 (.e 8 (.q 9 (.e 10 (.r (.e 11 (.q 12 (.q 13 (.e 14 (.done []))))))))) 8 (.q 9 (.f 4 (.e 10 (.r (.e 11 (.q 12 (.q 13 (.e 14 (.done []))))))) 10 (.e 4 (.r (.e 11 (.q 12 (.q 13 (.e 14 (.done []))))))))))))))))) [11, 12, 13, 14] (by decide +kernel) ?_) | (refine E_ef rfl (Ef_ev WideF.wide (Ev_loadO1 (i := 1) rfl rfl rfl) rfl rfl ?_); refine ⟨Grow.same rfl rfl, ?_⟩) | (refine E_ef rfl (Ef_ev WideF.wide (Ev_loadO1 (i := 2) rfl rfl rfl) rfl rfl ?_); refine ⟨Grow.same rfl rfl, ?_⟩) | (refine E_ef rfl (Ef_call1 WideF.wide (StringA_fn ⟨p1, v1, R1, hp1, hB1, rfl⟩ (by omega)) ⟨rfl, trivial⟩ rfl ?_); rintro v2 H2 I2 hle2 ⟨rfl, rfl, p2, u2, rfl⟩; refine ⟨Grow.same rfl rfl, ?_⟩) | (refine O_ef rfl (Ef_call (I := [_]) WideF.wide (Reset_fn (p := p2) (v := u2)) ⟨rfl, trivial⟩ rfl ?_); rintro v3 H3 I3 hle3 ⟨rfl, hB3⟩) | refine O_nil ?_ | refine A_seq ?_ | refine A_region ?_ | (show drJ _ _ _ _ _ _ _ (.q _ _) _; refine D_q rfl ?_) | (show drJ _ _ _ _ _ _ _ (.e _ _) _; refine D_e rfl ?_) | (show drJ _ _ _ _ _ _ _ (.f _ _ _ _) _; refine D_f rfl rfl ?_ ?_) | (show drJ _ _ _ _ _ _ _ (.r _) _; refine D_r ?_; simp only [List.cons_append, List.nil_append]) | (show drJ _ _ _ _ _ _ _ (.done _) _; refine D_done ?_; simp only [List.cons_append, List.nil_append]) | (show drQ _ _ _ _ _ _; first | refine D_ev rfl (Ev_pure rfl) rfl rfl ?_ | (show drQ _ _ _ ⟨_, .fieldAddr _ _ _, _, _, _, _⟩ _ _; refine D_ev rfl (Ev_fieldAddr rfl rfl rfl) rfl rfl ?_) | (show drQ _ _ _ ⟨_, .build _ _, _, _, _, _⟩ _ _; refine D_ev rfl (Ev_build (vs := [(_, _)]) ⟨rfl, rfl, trivial⟩ rfl) rfl rfl ?_) | (show drQ _ _ _ ⟨_, .nilCheck _, _, _, _, _⟩ _ _; refine D_ev rfl (Ev_nilCheck rfl) rfl rfl ?_)) | (show drJ _ _ _ _ _ _ _ (.p _ _) _; refine D_p rfl ?_) | (show drP _ _ _ _ _ _; refine D_pv rfl (Ev_pure rfl) rfl rfl ?_) | (show drE _ _ _ _ _ _ _; first | (show drE _ _ _ _ ⟨_, .call _, _, _, _, _⟩ _ _; (refine E_ef rfl (Ef_f1 (Ef_appendR WideF.wide rfl rfl rfl rfl rfl (by simp; omega) (by simp; omega) rfl ?_)); intro a cp; refine ⟨Grow.same rfl rfl, ?_⟩)) | (show drE _ _ _ _ ⟨_, .buildSlice _ _ _, _, _, _, _⟩ _ _; (refine E_ef rfl (Ef_build1a WideF.wide rfl rfl rfl rfl rfl ?_); intro b; refine ⟨Grow.same rfl rfl, ?_⟩)) | (show drE _ _ _ _ ⟨_, .store _ _ _, _, _, _, _⟩ _ _; (refine E_ef rfl (Ef_f1 (Ef_storeO1 WideF.wide rfl rfl rfl rfl rfl ?_)); refine ⟨Grow.same rfl rfl, ?_⟩))) | (show opsA _ _ _ _ _ _ _; first | refine O_ev WideF.wide rfl (Ev_pure rfl) rfl rfl ?_ | (show opsA _ _ _ _ (⟨_, .fieldAddr _ _ _, _, _, _, _⟩ :: _) _ _; refine O_ev WideF.wide rfl (Ev_fieldAddr rfl rfl rfl) rfl rfl ?_) | (show opsA _ _ _ _ (⟨_, .nilCheck _, _, _, _, _⟩ :: _) _ _; refine O_ev WideF.wide rfl (Ev_nilCheck rfl) rfl rfl ?_)) | (show wpA _ _ _ (.cond _ _ _) _ _ _ _; (refine A_if rfl (fun h => ?_) (fun h => ?_) <;> try (exfalso; omega))))
    all_goals first
      | (exfalso; simp at *; omega)
      | (refine Shift_perm List.perm_append_comm ?_
         refine End_m (Ret0 rfl) ⟨rfl, ?_⟩
         unfold fls
         rw [if_neg h0]
         exact ⟨_, _, _, by simpa using hB3, by simp; rfl⟩)
set_option maxRecDepth 100000 in
theorem place_fn {H : Hp} {b : Nat} {s lit : List UInt8} {i pl e : Int} {parts : List Pt} {I : Own} {d : UInt8} {q : Bool} (hI : Scn b s i lit parts pl e I) (hl : lit.length ≤ 1000000) (hp : parts.length ≤ 1000000) (hd : dig d) (hpl : 0 ≤ pl ∧ pl ≤ 1000000) :
    Fn Tryz.prog 76 [.pointer (some ⟨b, 0, none⟩), .int .u8 (d.toNat : Int), .bool q] H I fun _ H' I' => H' = H ∧ Scn b s i [] (fls parts lit ++ [⟨[], dlev d, q⟩]) (pl + 1) e I' := by
  have hfl := fun Hx => flush_fn (H := Hx) hI hl hp
  have hfll : (fls parts lit).length ≤ parts.length + 1 := by unfold fls; split <;> simp
  have hdl : dlev d = (d.toNat : Int) - 48 := rfl
  generalize fls parts lit = ps at hfl hfll ⊢
  unfold dig at hd
  refine Fn_of _ _ Tryz.func76 rfl Tryz.ntmps76 rfl fun c => ?_
  repeat' (first | (refine O_ef rfl (Ef_call0 WideF.wide (hfl _) ⟨rfl, trivial⟩ rfl ?_); rintro v1 H1 I1 hle1 ⟨rfl, a1, c1, I2, ⟨p1, v2, R1, hp1, hB1, rfl⟩, rfl⟩) | (refine O_ev WideF.wide rfl (Ev_sub rfl rfl (wu8 (by omega))) rfl rfl ?_) | refine O_nil ?_ | refine A_seq ?_ | refine A_region ?_ | (show opsA _ _ _ _ _ _ _; first | refine O_ev WideF.wide rfl (Ev_pure rfl) rfl rfl ?_ | (show opsA _ _ _ _ (⟨_, .load _ _, _, _, _, _⟩ :: _) _ _; first | refine O_ev WideF.wide rfl (Ev_loadO1 (i := 0) rfl rfl rfl) rfl rfl ?_ | refine O_ev WideF.wide rfl (Ev_loadO1 (i := 1) rfl rfl rfl) rfl rfl ?_) | (show opsA _ _ _ _ (⟨_, .fieldAddr _ _ _, _, _, _, _⟩ :: _) _ _; refine O_ev WideF.wide rfl (Ev_fieldAddr rfl rfl rfl) rfl rfl ?_) | (show opsA _ _ _ _ (⟨_, .call _, _, _, _, _⟩ :: _) _ _; (refine O_f1 (O_ef rfl (Ef_appendR WideF.wide rfl rfl rfl rfl rfl (by simp; omega) (by simp; omega) rfl ?_)); intro a cp)) | (show opsA _ _ _ _ (⟨_, .buildSlice _ _ _, _, _, _, _⟩ :: _) _ _; (refine O_ef rfl (Ef_build1a WideF.wide rfl rfl rfl rfl rfl ?_); intro b)) | (show opsA _ _ _ _ (⟨_, .binOp _ _ _ _ _, _, _, _, _⟩ :: _) _ _; refine O_ev WideF.wide rfl (Ev_add rfl rfl (wi64 (by omega))) rfl rfl ?_) | (show opsA _ _ _ _ (⟨_, .convert _ _ _, _, _, _, _⟩ :: _) _ _; refine O_ev WideF.wide rfl (Ev_conv (k2 := .i64) rfl (wi64 (by omega))) rfl rfl ?_) | (show opsA _ _ _ _ (⟨_, .build _ _, _, _, _, _⟩ :: _) _ _; refine O_ev WideF.wide rfl (Ev_build (vs := [(_, _), (_, _)]) ⟨rfl, rfl, rfl, rfl, trivial⟩ rfl) rfl rfl ?_) | (show opsA _ _ _ _ (⟨_, .nilCheck _, _, _, _, _⟩ :: _) _ _; refine O_ev WideF.wide rfl (Ev_nilCheck rfl) rfl rfl ?_) | (show opsA _ _ _ _ (⟨_, .store _ _ _, _, _, _, _⟩ :: _) _ _; first | refine O_ef rfl (Ef_storeO1 WideF.wide rfl rfl rfl rfl rfl ?_) | refine O_f1 (O_ef rfl (Ef_storeO1 WideF.wide rfl rfl rfl rfl rfl ?_)))))
  have e3 : ∀ z, z = prow ⟨[], dlev d, q⟩ → List.map prow ps ++ [z] = (ps ++ [(⟨[], dlev d, q⟩ : Pt)]).map prow := fun z h => by rw [h, List.map_append]; rfl
  refine Shift_perm (List.Perm.swap _ _ _) ?_
  rw [e3]
  · rw [List.length_map]
    exact End_m (Ret0 rfl) ⟨rfl, _, _, _, ⟨p1, v2, R1, hp1, hB1, rfl⟩, rfl⟩
  · rfl
/-- what a scanner reads next -/
theorem pct_cases {s : List UInt8} {i : Nat} (hc : s[i]? = some 37) :
    (([37, 37] : List UInt8).isPrefixOf (s.drop i) = true ∧ pct (s.drop (i + 1)) = .sign) ∨
    (([37, 37] : List UInt8).isPrefixOf (s.drop i) = false ∧ ∃ d, s[i + 1]? = some d ∧ dig d ∧ pct (s.drop (i + 1)) = .place ⟨[], dlev d, false⟩ 1) ∨
    (([37, 37] : List UInt8).isPrefixOf (s.drop i) = false ∧ (¬ ∃ d, s[i + 1]? = some d ∧ dig d) ∧ ([37, 100] : List UInt8).isPrefixOf (s.drop i) = true ∧ ∃ d, s[i + 2]? = some d ∧ dig d ∧ pct (s.drop (i + 1)) = .place ⟨[], dlev d, true⟩ 2) ∨
    (([37, 37] : List UInt8).isPrefixOf (s.drop i) = false ∧ (¬ ∃ d, s[i + 1]? = some d ∧ dig d) ∧ (([37, 100] : List UInt8).isPrefixOf (s.drop i) = false ∨ (([37, 100] : List UInt8).isPrefixOf (s.drop i) = true ∧ ¬ ∃ d, s[i + 2]? = some d ∧ dig d)) ∧ pct (s.drop (i + 1)) = .bad) := by
  have hi : i < s.length := (List.getElem?_eq_some_iff.1 hc).1
  have e0 : s.drop i = 37 :: s.drop (i + 1) := by
    obtain ⟨x, h1, h2, _⟩ := drop_at hi
    rw [hc] at h2
    cases h2
    exact h1
  have e1 : s[i + 1]? = (s.drop (i + 1))[0]? := by rw [List.getElem?_drop]
  have e2 : s[i + 2]? = (s.drop (i + 1))[1]? := by rw [List.getElem?_drop]
  rw [e0, e1, e2]
  cases hr : s.drop (i + 1) with
  | nil => exact .inr (.inr (.inr ⟨rfl, by simp, .inl rfl, rfl⟩))
  | cons c r =>
    rw [pct_cons]
    by_cases h1 : c = 37
    · subst h1; exact .inl ⟨by simp [List.isPrefixOf], if_pos rfl⟩
    · have p1 : ([37, 37] : List UInt8).isPrefixOf (37 :: c :: r) = false := by simp [List.isPrefixOf]; exact fun h => h1 h.symm
      rw [p1, if_neg h1]
      by_cases h2 : dig c
      · exact .inr (.inl ⟨rfl, c, rfl, h2, by rw [if_pos h2]⟩)
      · have hn : ¬ ∃ d, (c :: r)[0]? = some d ∧ dig d := by rintro ⟨d, hd, h⟩; cases hd; exact h2 h
        rw [if_neg h2]
        by_cases h3 : c = 100
        · subst h3
          have p2 : ([37, 100] : List UInt8).isPrefixOf (37 :: 100 :: r) = true := by simp [List.isPrefixOf]
          rw [if_pos rfl, p2]
          cases r with
          | nil => exact .inr (.inr (.inr ⟨rfl, hn, .inr ⟨rfl, by simp⟩, rfl⟩))
          | cons d r =>
            by_cases h4 : dig d
            · exact .inr (.inr (.inl ⟨rfl, hn, rfl, d, rfl, h4, by simp only [if_pos h4]⟩))
            · exact .inr (.inr (.inr ⟨rfl, hn, .inr ⟨rfl, by rintro ⟨q, hq, h⟩; cases hq; exact h4 h⟩, by simp only [if_neg h4]⟩))
        · have p2 : ([37, 100] : List UInt8).isPrefixOf (37 :: c :: r) = false := by simp [List.isPrefixOf]; exact fun h => h3 h.symm
          rw [if_neg h3, p2]
          exact .inr (.inr (.inr ⟨rfl, hn, .inl rfl, rfl⟩))
/-- what percent leaves -/
def PctR (b : Nat) (s : List UInt8) (i : Nat) (lit : List UInt8) (parts : List Pt) (pl : Int) (I : Own) : Prop := match pct (s.drop (i + 1)) with
  | .bad => Scn b s i lit parts pl 14 I
  | .sign => Scn b s (i + 2) (lit ++ [37]) parts pl 0 I
  | .place p n => Scn b s (i + 1 + n) [] (fls parts lit ++ [p]) (pl + 1) 0 I
set_option maxRecDepth 100000 in
set_option maxHeartbeats 2000000 in
theorem percent_fn {H : Hp} {b : Nat} {s lit : List UInt8} {i : Nat} {pl : Int} {parts : List Pt} {I : Own} (hI : Scn b s i lit parts pl 0 I) (hl : lit.length ≤ 1000) (hp : parts.length ≤ 1000) (hs : s.length ≤ 200) (hc : s[i]? = some 37) (hpl : 0 ≤ pl ∧ pl ≤ 1000) :
    Fn Tryz.prog 58 [.pointer (some ⟨b, 0, none⟩)] H I fun _ H' I' => H' = H ∧ PctR b s i lit parts pl I' := by
  have hi : i < s.length := (List.getElem?_eq_some_iff.1 hc).1
  have hpf := fun Hx p => HasPrefix_fn (H := Hx) (l := s.drop i) (p := p)
  have h1 := fun Hx => hpf Hx [37, 37]
  have h2 := fun Hx => hpf Hx [37, 100]
  have hd := fun Hx x1 x2 x3 x4 x5 x6 (k : Nat) (hk : k ≤ 2) => digit_fn (H := Hx) (b := b) (s := s) (x1 := x1) (x2 := x2) (x3 := x3) (x4 := x4) (x5 := x5) (x6 := x6) (i := i + k) (by omega) (by omega)
  unfold PctR
  obtain ⟨a, cq, I0, ⟨p, v, R, hpp, hB, rfl⟩, rfl⟩ := hI
  have hSc : Scn b s i lit parts pl 0 (.row (.slice a parts.length cq) 3 (parts.map prow) :: .obj b (cobj [sv s, .int .i64 i, .pointer p, v, .slice a parts.length cq, .int .i64 pl, .int .i64 0] scT) :: R) := ⟨a, cq, _, ⟨p, v, R, hpp, hB, rfl⟩, rfl⟩
  have hSb : ScB b (sv s) (.int .i64 i) (.slice a parts.length cq) (.int .i64 pl) (.int .i64 0) lit (.obj b (cobj [sv s, .int .i64 i, .pointer p, v, .slice a parts.length cq, .int .i64 pl, .int .i64 0] scT) :: R) := ⟨p, v, R, hpp, hB, rfl⟩
  have d1 := fun Hx => (hd Hx (.int .i64 i) (.pointer p) v (.slice a parts.length cq) (.int .i64 pl) (.int .i64 0) 1 (by omega)).lend (Q := fun v => v = .bool (decide (∃ c, s[i + 1]? = some c ∧ dig c))) (R := .row (.slice a parts.length cq) 3 (parts.map prow) :: R) (List.Perm.swap _ _ _)
  have d2 := fun Hx => (hd Hx (.int .i64 i) (.pointer p) v (.slice a parts.length cq) (.int .i64 pl) (.int .i64 0) 2 (by omega)).lend (Q := fun v => v = .bool (decide (∃ c, s[i + 2]? = some c ∧ dig c))) (R := .row (.slice a parts.length cq) 3 (parts.map prow) :: R) (List.Perm.swap _ _ _)
  simp only [show ((i + 1 : Nat) : Int) = (i : Int) + 1 by omega] at d1
  simp only [show ((i + 2 : Nat) : Int) = (i : Int) + 2 by omega] at d2
  rcases pct_cases hc with ⟨q1, q2⟩ | ⟨q1, d, q2, q3, q4⟩ | ⟨q1, q2, q3, d, q4, q5, q6⟩ | ⟨q1, q2, q3, q4⟩
  · rw [q2]
    simp only [q1] at h1
    have hw := fun Hx => WriteByte_fn (H := Hx) (u := 37) hSb (by omega)
    refine Fn_of _ _ Tryz.func58 rfl Tryz.ntmps58 rfl fun c => ?_
    repeat' (first | (refine A_drawL WideF.wide (.q 0 (.q 1 (.q 2 (.q 3 (.q 4 (.q 5 (.q 6 (.q 7 (.q 8 (.e 9 (.q 10 (.done [])))))))))))) [] (by decide +kernel) ?_) | (refine E_ef rfl (Ef_callp WideF.wide (h1 _) ⟨rfl, rfl, trivial⟩ rfl ?_); refine ⟨Grow.same rfl rfl, ?_⟩) | (refine O_ef rfl (Ef_call1 WideF.wide (hw _) ⟨rfl, rfl, trivial⟩ rfl ?_); rintro u H1 I1 hle1 ⟨rfl, p1, v1, R1, hp1, hB1, rfl⟩) | (refine O_f1 (O_ef rfl (Ef_storeO1 WideF.wide rfl rfl rfl rfl rfl ?_))) | refine O_nil ?_ | refine A_seq ?_ | refine A_region ?_ | refine A_block ?_ | (show drJ _ _ _ _ _ _ _ (.q _ _) _; refine D_q rfl ?_) | (show drJ _ _ _ _ _ _ _ (.e _ _) _; refine D_e rfl ?_) | (show drJ _ _ _ _ _ _ _ (.done _) _; refine D_done ?_; simp only [List.cons_append, List.nil_append]) | (show drQ _ _ _ _ _ _; first | refine D_ev rfl (Ev_pure rfl) rfl rfl ?_ | (show drQ _ _ _ ⟨_, .load _ _, _, _, _, _⟩ _ _; refine D_ev rfl (Ev_loadO1 (i := 1) rfl rfl rfl) rfl rfl ?_) | (show drQ _ _ _ ⟨_, .fieldAddr _ _ _, _, _, _, _⟩ _ _; refine D_ev rfl (Ev_fieldAddr rfl rfl rfl) rfl rfl ?_) | (show drQ _ _ _ ⟨_, .slice _ _ _ _ _, _, _, _, _⟩ _ _; refine D_ev rfl (Ev_sslicel rfl rfl (by omega) (by omega)) rfl rfl ?_) | (show drQ _ _ _ ⟨_, .nilCheck _, _, _, _, _⟩ _ _; refine D_ev rfl (Ev_nilCheck rfl) rfl rfl ?_)) | (show opsA _ _ _ _ _ _ _; first | refine O_ev WideF.wide rfl (Ev_pure rfl) rfl rfl ?_ | (show opsA _ _ _ _ (⟨_, .load _ _, _, _, _, _⟩ :: _) _ _; refine O_ev WideF.wide rfl (Ev_loadO1 (i := 1) rfl rfl rfl) rfl rfl ?_) | (show opsA _ _ _ _ (⟨_, .fieldAddr _ _ _, _, _, _, _⟩ :: _) _ _; refine O_ev WideF.wide rfl (Ev_fieldAddr rfl rfl rfl) rfl rfl ?_) | (show opsA _ _ _ _ (⟨_, .binOp _ _ _ _ _, _, _, _, _⟩ :: _) _ _; refine O_ev WideF.wide rfl (Ev_add rfl rfl (wi64 (by omega))) rfl rfl ?_) | (show opsA _ _ _ _ (⟨_, .nilCheck _, _, _, _, _⟩ :: _) _ _; refine O_ev WideF.wide rfl (Ev_nilCheck rfl) rfl rfl ?_)) | (show wpA _ _ _ (.cond _ _ _) _ _ _ _; refine A_iftrue rfl ?_))
    refine Shift_perm (List.Perm.swap _ _ _) ?_
    exact End_m (Ret0 rfl) ⟨rfl, _, _, _, ⟨p1, v1, R1, hp1, hB1, rfl⟩, rfl⟩
  · rw [q4]
    simp only [q1] at h1
    simp only [decide_eq_true (show ∃ c, s[i + 1]? = some c ∧ dig c from ⟨d, q2, q3⟩)] at d1
    have hi1 : i + 1 < s.length := (List.getElem?_eq_some_iff.1 q2).1
    have hb1 : bat s ((i : Int) + 1) = (d.toNat : Int) := by rw [show (i : Int) + 1 = ((i + 1 : Nat) : Int) by omega, bat_at hi1]; rw [List.getElem?_eq_getElem hi1] at q2; cases q2; rfl
    have hpl' := fun Hx => place_fn (H := Hx) (d := d) (q := false) hSc (by omega) (by omega) q3 (by omega)
    simp only [← hb1] at hpl'
    dsimp only
    rw [show (i : Int) + 1 + ((1 : Nat) : Int) = i + 2 by omega]
    refine Fn_of _ _ Tryz.func58 rfl Tryz.ntmps58 rfl fun c => ?_
    repeat' (first | (refine A_drawL WideF.wide (.q 0 (.q 1 (.q 2 (.q 3 (.q 4 (.q 5 (.q 6 (.q 7 (.q 8 (.e 9 (.q 10 (.done [])))))))))))) [] (by decide +kernel) ?_) | (refine A_drawL WideF.wide (.p 0 (.p 1 (.q 2 (.q 3 (.q 4 (.p 5 (.p 6 (.q 7 (.q 8 (.q 9 (.r (.q 10 (.e 11 (.done [])))))))))))))) [10, 11] (by decide +kernel) ?_) | (refine E_ef rfl (Ef_callp WideF.wide (h1 _) ⟨rfl, rfl, trivial⟩ rfl ?_); refine ⟨Grow.same rfl rfl, ?_⟩) | (refine O_ef rfl (Ef_call0 WideF.wide (d1 _) ⟨rfl, rfl, trivial⟩ rfl ?_); rintro u H1 I1 hle1 ⟨rfl, rfl, rfl⟩) | (refine E_ef rfl (Ef_call0 WideF.wide (hpl' _) ⟨rfl, rfl, rfl, trivial⟩ rfl ?_); rintro u H2 I2 hle2 ⟨rfl, a2, c2, I2, ⟨p2, v2, R2, hp2, hB2, rfl⟩, rfl⟩; refine ⟨⟨HLe.refl _, rfl⟩, ?_⟩) | (show drJ _ _ _ _ _ _ _ (.r _) _; refine D_r ?_; rw [List.nil_append]) | (refine O_f1 (O_ef rfl (Ef_storeO1 WideF.wide rfl rfl rfl rfl rfl ?_))) | refine O_nil ?_ | refine A_seq ?_ | refine A_region ?_ | refine A_block ?_ | (show drJ _ _ _ _ _ _ _ (.q _ _) _; refine D_q rfl ?_) | (show drJ _ _ _ _ _ _ _ (.e _ _) _; refine D_e rfl ?_) | (show drJ _ _ _ _ _ _ _ (.done _) _; refine D_done ?_; simp only [List.cons_append, List.nil_append]) | (show drQ _ _ _ _ _ _; first | refine D_ev rfl (Ev_pure rfl) rfl rfl ?_ | (show drQ _ _ _ ⟨_, .load _ _, _, _, _, _⟩ _ _; refine D_ev rfl (Ev_loadO1 (i := 1) rfl rfl rfl) rfl rfl ?_) | (show drQ _ _ _ ⟨_, .fieldAddr _ _ _, _, _, _, _⟩ _ _; refine D_ev rfl (Ev_fieldAddr rfl rfl rfl) rfl rfl ?_) | (show drQ _ _ _ ⟨_, .binOp _ _ _ _ _, _, _, _, _⟩ _ _; refine D_ev rfl (Ev_add rfl rfl (wi64 (by omega))) rfl rfl ?_) | (show drQ _ _ _ ⟨_, .index _ _ _, _, _, _, _⟩ _ _; refine D_ev rfl (Ev_sindex rfl rfl (by omega) (by omega)) rfl rfl ?_) | (show drQ _ _ _ ⟨_, .slice _ _ _ _ _, _, _, _, _⟩ _ _; refine D_ev rfl (Ev_sslicel rfl rfl (by omega) (by omega)) rfl rfl ?_) | (show drQ _ _ _ ⟨_, .nilCheck _, _, _, _, _⟩ _ _; refine D_ev rfl (Ev_nilCheck rfl) rfl rfl ?_)) | (show drJ _ _ _ _ _ _ _ (.p _ _) _; refine D_p rfl ?_) | (show drP _ _ _ _ _ _; first | refine D_pv rfl (Ev_pure rfl) rfl rfl ?_ | (show drP _ _ _ ⟨_, .nilCheck _, _, _, _, _⟩ _ _; refine D_pv rfl (Ev_nilCheck rfl) rfl rfl ?_)) | (show opsA _ _ _ _ _ _ _; first | refine O_ev WideF.wide rfl (Ev_pure rfl) rfl rfl ?_ | (show opsA _ _ _ _ (⟨_, .load _ _, _, _, _, _⟩ :: _) _ _; refine O_ev WideF.wide rfl (Ev_loadO1 (i := 1) rfl rfl rfl) rfl rfl ?_) | (show opsA _ _ _ _ (⟨_, .fieldAddr _ _ _, _, _, _, _⟩ :: _) _ _; refine O_ev WideF.wide rfl (Ev_fieldAddr rfl rfl rfl) rfl rfl ?_) | (show opsA _ _ _ _ (⟨_, .binOp _ _ _ _ _, _, _, _, _⟩ :: _) _ _; refine O_ev WideF.wide rfl (Ev_add rfl rfl (wi64 (by omega))) rfl rfl ?_) | (show opsA _ _ _ _ (⟨_, .nilCheck _, _, _, _, _⟩ :: _) _ _; refine O_ev WideF.wide rfl (Ev_nilCheck rfl) rfl rfl ?_)) | (show wpA _ _ _ (.cond _ _ _) _ _ _ _; first | refine A_iftrue rfl ?_ | refine A_iffalse rfl ?_))
    refine Shift_perm (List.Perm.swap _ _ _) ?_
    rw [List.append_nil]
    exact End_m (Ret0 rfl) ⟨rfl, _, _, _, ⟨p2, v2, R2, hp2, hB2, rfl⟩, rfl⟩
  · rw [q6]
    simp only [q1] at h1
    simp only [q3] at h2
    simp only [decide_eq_false q2] at d1
    simp only [decide_eq_true (show ∃ c, s[i + 2]? = some c ∧ dig c from ⟨d, q4, q5⟩)] at d2
    have hi1 : i + 2 < s.length := (List.getElem?_eq_some_iff.1 q4).1
    have hb1 : bat s ((i : Int) + 2) = (d.toNat : Int) := by rw [show (i : Int) + 2 = ((i + 2 : Nat) : Int) by omega, bat_at hi1]; rw [List.getElem?_eq_getElem hi1] at q4; cases q4; rfl
    have hpl' := fun Hx => place_fn (H := Hx) (d := d) (q := true) hSc (by omega) (by omega) q5 (by omega)
    simp only [← hb1] at hpl'
    dsimp only
    rw [show (i : Int) + 1 + ((2 : Nat) : Int) = i + 3 by omega]
    refine Fn_of _ _ Tryz.func58 rfl Tryz.ntmps58 rfl fun c => ?_
    repeat' (first | (refine A_drawL WideF.wide (.q 0 (.q 1 (.q 2 (.q 3 (.q 4 (.q 5 (.q 6 (.q 7 (.q 8 (.e 9 (.q 10 (.done [])))))))))))) [] (by decide +kernel) ?_) | (show drJ _ _ _ _ _ _ _ (.done _) _; refine D_done ?_; rw [List.append_nil]) | (refine A_drawM WideF.wide (.q 0 (.q 1 (.q 2 (.q 4 (.q 5 (.q 6 (.f 3 (.e 7 (.q 8 (.e 9 (.q 10 (.q 11 (.q 12 (.q 13 (.q 14 (.e 15 (.q 16 (.e 17 (.q 18 (.q 19 (.done [])))))))))))))) 7 (.e 3 (.q 8 (.e 9 (.q 10 (.q 11 (.q 12 (.q 13 (.q 14 (.e 15 (.q 16 (.e 17 (.q 18 (.q 19 (.done []))))))))))))))))))))) [] (by decide +kernel) ?_) | (refine E_ef rfl (Ef_ev WideF.wide (Ev_loadO1 (i := 1) rfl rfl rfl) rfl rfl ?_); refine ⟨Grow.same rfl rfl, ?_⟩) | (refine A_drawL WideF.wide (.p 0 (.p 1 (.q 2 (.q 3 (.q 4 (.p 5 (.p 6 (.q 7 (.q 8 (.q 9 (.r (.q 10 (.e 11 (.done [])))))))))))))) [10, 11] (by decide +kernel) ?_) | (refine E_ef rfl (Ef_callp WideF.wide (h1 _) ⟨rfl, rfl, trivial⟩ rfl ?_); refine ⟨Grow.same rfl rfl, ?_⟩) | (refine E_ef rfl (Ef_callp WideF.wide (h2 _) ⟨rfl, rfl, trivial⟩ rfl ?_); refine ⟨Grow.same rfl rfl, ?_⟩) | (refine O_ef rfl (Ef_call0 WideF.wide (d1 _) ⟨rfl, rfl, trivial⟩ rfl ?_); rintro u H1 I1 hle1 ⟨rfl, rfl, rfl⟩) | (refine E_ef rfl (Ef_call0 WideF.wide (d2 _) ⟨rfl, rfl, trivial⟩ rfl ?_); rintro u H1 I1 hle1 ⟨rfl, rfl, rfl⟩; refine ⟨⟨HLe.refl _, rfl⟩, ?_⟩) | (refine E_ef rfl (Ef_call0 WideF.wide (hpl' _) ⟨rfl, rfl, rfl, trivial⟩ rfl ?_); rintro u H2 I2 hle2 ⟨rfl, a2, c2, I2, ⟨p2, v2, R2, hp2, hB2, rfl⟩, rfl⟩; refine ⟨⟨HLe.refl _, rfl⟩, ?_⟩) | (show drJ _ _ _ _ _ _ _ (.r _) _; refine D_r ?_; rw [List.nil_append]) | (refine O_f1 (O_ef rfl (Ef_storeO1 WideF.wide rfl rfl rfl rfl rfl ?_))) | refine O_nil ?_ | refine A_seq ?_ | refine A_region ?_ | refine A_block ?_ | (show drJ _ _ _ _ _ _ _ (.q _ _) _; refine D_q rfl ?_) | (show drJ _ _ _ _ _ _ _ (.e _ _) _; refine D_e rfl ?_) | (show drJ _ _ _ _ _ _ _ (.f _ _ _ _) _; refine D_f rfl rfl ?_ ?_) | (show drJ _ _ _ _ _ _ _ (.done _) _; refine D_done ?_; simp only [List.cons_append, List.nil_append]) | (show drQ _ _ _ _ _ _; first | refine D_ev rfl (Ev_pure rfl) rfl rfl ?_ | (show drQ _ _ _ ⟨_, .load _ _, _, _, _, _⟩ _ _; refine D_ev rfl (Ev_loadO1 (i := 1) rfl rfl rfl) rfl rfl ?_) | (show drQ _ _ _ ⟨_, .fieldAddr _ _ _, _, _, _, _⟩ _ _; refine D_ev rfl (Ev_fieldAddr rfl rfl rfl) rfl rfl ?_) | (show drQ _ _ _ ⟨_, .binOp _ _ _ _ _, _, _, _, _⟩ _ _; refine D_ev rfl (Ev_add rfl rfl (wi64 (by omega))) rfl rfl ?_) | (show drQ _ _ _ ⟨_, .index _ _ _, _, _, _, _⟩ _ _; refine D_ev rfl (Ev_sindex rfl rfl (by omega) (by omega)) rfl rfl ?_) | (show drQ _ _ _ ⟨_, .slice _ _ _ _ _, _, _, _, _⟩ _ _; refine D_ev rfl (Ev_sslicel rfl rfl (by omega) (by omega)) rfl rfl ?_) | (show drQ _ _ _ ⟨_, .nilCheck _, _, _, _, _⟩ _ _; refine D_ev rfl (Ev_nilCheck rfl) rfl rfl ?_)) | (show drJ _ _ _ _ _ _ _ (.p _ _) _; refine D_p rfl ?_) | (show drP _ _ _ _ _ _; first | refine D_pv rfl (Ev_pure rfl) rfl rfl ?_ | (show drP _ _ _ ⟨_, .nilCheck _, _, _, _, _⟩ _ _; refine D_pv rfl (Ev_nilCheck rfl) rfl rfl ?_)) | (show opsA _ _ _ _ _ _ _; first | refine O_ev WideF.wide rfl (Ev_pure rfl) rfl rfl ?_ | (show opsA _ _ _ _ (⟨_, .load _ _, _, _, _, _⟩ :: _) _ _; refine O_ev WideF.wide rfl (Ev_loadO1 (i := 1) rfl rfl rfl) rfl rfl ?_) | (show opsA _ _ _ _ (⟨_, .fieldAddr _ _ _, _, _, _, _⟩ :: _) _ _; refine O_ev WideF.wide rfl (Ev_fieldAddr rfl rfl rfl) rfl rfl ?_) | (show opsA _ _ _ _ (⟨_, .binOp _ _ _ _ _, _, _, _, _⟩ :: _) _ _; refine O_ev WideF.wide rfl (Ev_add rfl rfl (wi64 (by omega))) rfl rfl ?_) | (show opsA _ _ _ _ (⟨_, .nilCheck _, _, _, _, _⟩ :: _) _ _; refine O_ev WideF.wide rfl (Ev_nilCheck rfl) rfl rfl ?_)) | (show wpA _ _ _ (.cond _ _ _) _ _ _ _; first | refine A_iftrue rfl ?_ | refine A_iffalse rfl ?_))
    all_goals
      refine Shift_perm (List.Perm.swap _ _ _) ?_
      exact End_m (Ret0 rfl) ⟨rfl, _, _, _, ⟨p2, v2, R2, hp2, hB2, rfl⟩, rfl⟩
  · rw [q4]
    simp only [q1] at h1
    simp only [decide_eq_false q2] at d1
    rcases q3 with q3 | ⟨q3, q5⟩
    · simp only [q3] at h2
      refine Fn_of _ _ Tryz.func58 rfl Tryz.ntmps58 rfl fun c => ?_
      repeat' (first | (show drJ _ _ _ _ _ _ _ (.done _) _; refine D_done ?_; rw [List.append_nil]) | (refine A_drawL WideF.wide (.q 0 (.q 1 (.q 2 (.q 3 (.q 4 (.q 5 (.q 6 (.q 7 (.q 8 (.e 9 (.q 10 (.done [])))))))))))) [] (by decide +kernel) ?_) | (refine A_drawM WideF.wide (.q 0 (.q 1 (.q 2 (.q 4 (.q 5 (.q 6 (.f 3 (.e 7 (.q 8 (.e 9 (.q 10 (.q 11 (.q 12 (.q 13 (.q 14 (.e 15 (.q 16 (.e 17 (.q 18 (.q 19 (.done [])))))))))))))) 7 (.e 3 (.q 8 (.e 9 (.q 10 (.q 11 (.q 12 (.q 13 (.q 14 (.e 15 (.q 16 (.e 17 (.q 18 (.q 19 (.done []))))))))))))))))))))) [] (by decide +kernel) ?_) | (refine E_ef rfl (Ef_ev WideF.wide (Ev_loadO1 (i := 1) rfl rfl rfl) rfl rfl ?_); refine ⟨Grow.same rfl rfl, ?_⟩) | (refine E_ef rfl (Ef_callp WideF.wide (h1 _) ⟨rfl, rfl, trivial⟩ rfl ?_); refine ⟨Grow.same rfl rfl, ?_⟩) | (refine E_ef rfl (Ef_callp WideF.wide (h2 _) ⟨rfl, rfl, trivial⟩ rfl ?_); refine ⟨Grow.same rfl rfl, ?_⟩) | (refine O_ef rfl (Ef_call0 WideF.wide (d1 _) ⟨rfl, rfl, trivial⟩ rfl ?_); rintro u H1 I1 hle1 ⟨rfl, rfl, rfl⟩) | (refine O_f1 (O_ef rfl (Ef_storeO1 WideF.wide rfl rfl rfl rfl rfl ?_))) | refine O_nil ?_ | refine A_seq ?_ | refine A_region ?_ | refine A_block ?_ | (show drJ _ _ _ _ _ _ _ (.q _ _) _; refine D_q rfl ?_) | (show drJ _ _ _ _ _ _ _ (.e _ _) _; refine D_e rfl ?_) | (show drJ _ _ _ _ _ _ _ (.f _ _ _ _) _; refine D_f rfl rfl ?_ ?_) | (show drJ _ _ _ _ _ _ _ (.done _) _; refine D_done ?_; simp only [List.cons_append, List.nil_append]) | (show drQ _ _ _ _ _ _; first | refine D_ev rfl (Ev_pure rfl) rfl rfl ?_ | (show drQ _ _ _ ⟨_, .load _ _, _, _, _, _⟩ _ _; refine D_ev rfl (Ev_loadO1 (i := 1) rfl rfl rfl) rfl rfl ?_) | (show drQ _ _ _ ⟨_, .fieldAddr _ _ _, _, _, _, _⟩ _ _; refine D_ev rfl (Ev_fieldAddr rfl rfl rfl) rfl rfl ?_) | (show drQ _ _ _ ⟨_, .slice _ _ _ _ _, _, _, _, _⟩ _ _; refine D_ev rfl (Ev_sslicel rfl rfl (by omega) (by omega)) rfl rfl ?_) | (show drQ _ _ _ ⟨_, .nilCheck _, _, _, _, _⟩ _ _; refine D_ev rfl (Ev_nilCheck rfl) rfl rfl ?_) | refine D_skip rfl rfl rfl ?_) | (show drE _ _ _ _ _ _ _; refine E_skip rfl rfl rfl ?_) | (show opsA _ _ _ _ _ _ _; first | refine O_ev WideF.wide rfl (Ev_pure rfl) rfl rfl ?_ | (show opsA _ _ _ _ (⟨_, .load _ _, _, _, _, _⟩ :: _) _ _; refine O_ev WideF.wide rfl (Ev_loadO1 (i := 1) rfl rfl rfl) rfl rfl ?_) | (show opsA _ _ _ _ (⟨_, .fieldAddr _ _ _, _, _, _, _⟩ :: _) _ _; refine O_ev WideF.wide rfl (Ev_fieldAddr rfl rfl rfl) rfl rfl ?_) | (show opsA _ _ _ _ (⟨_, .binOp _ _ _ _ _, _, _, _, _⟩ :: _) _ _; refine O_ev WideF.wide rfl (Ev_add rfl rfl (wi64 (by omega))) rfl rfl ?_) | (show opsA _ _ _ _ (⟨_, .nilCheck _, _, _, _, _⟩ :: _) _ _; refine O_ev WideF.wide rfl (Ev_nilCheck rfl) rfl rfl ?_)) | (show wpA _ _ _ (.cond _ _ _) _ _ _ _; refine A_iffalse rfl ?_))
      all_goals
        refine Shift_perm (List.Perm.swap _ _ _) ?_
        exact End_m (Ret0 rfl) ⟨rfl, _, _, _, ⟨p, v, R, hpp, hB, rfl⟩, rfl⟩
    · simp only [q3] at h2
      simp only [decide_eq_false q5] at d2
      refine Fn_of _ _ Tryz.func58 rfl Tryz.ntmps58 rfl fun c => ?_
      repeat' (first | (show drJ _ _ _ _ _ _ _ (.done _) _; refine D_done ?_; rw [List.append_nil]) | (refine A_drawL WideF.wide (.q 0 (.q 1 (.q 2 (.q 3 (.q 4 (.q 5 (.q 6 (.q 7 (.q 8 (.e 9 (.q 10 (.done [])))))))))))) [] (by decide +kernel) ?_) | (refine A_drawM WideF.wide (.q 0 (.q 1 (.q 2 (.q 4 (.q 5 (.q 6 (.f 3 (.e 7 (.q 8 (.e 9 (.q 10 (.q 11 (.q 12 (.q 13 (.q 14 (.e 15 (.q 16 (.e 17 (.q 18 (.q 19 (.done [])))))))))))))) 7 (.e 3 (.q 8 (.e 9 (.q 10 (.q 11 (.q 12 (.q 13 (.q 14 (.e 15 (.q 16 (.e 17 (.q 18 (.q 19 (.done []))))))))))))))))))))) [] (by decide +kernel) ?_) | (refine E_ef rfl (Ef_ev WideF.wide (Ev_loadO1 (i := 1) rfl rfl rfl) rfl rfl ?_); refine ⟨Grow.same rfl rfl, ?_⟩) | (refine E_ef rfl (Ef_callp WideF.wide (h1 _) ⟨rfl, rfl, trivial⟩ rfl ?_); refine ⟨Grow.same rfl rfl, ?_⟩) | (refine E_ef rfl (Ef_callp WideF.wide (h2 _) ⟨rfl, rfl, trivial⟩ rfl ?_); refine ⟨Grow.same rfl rfl, ?_⟩) | (refine O_ef rfl (Ef_call0 WideF.wide (d1 _) ⟨rfl, rfl, trivial⟩ rfl ?_); rintro u H1 I1 hle1 ⟨rfl, rfl, rfl⟩) | (refine E_ef rfl (Ef_call0 WideF.wide (d2 _) ⟨rfl, rfl, trivial⟩ rfl ?_); rintro u H1 I1 hle1 ⟨rfl, rfl, rfl⟩; refine ⟨⟨HLe.refl _, rfl⟩, ?_⟩) | (refine O_f1 (O_ef rfl (Ef_storeO1 WideF.wide rfl rfl rfl rfl rfl ?_))) | refine O_nil ?_ | refine A_seq ?_ | refine A_region ?_ | refine A_block ?_ | (show drJ _ _ _ _ _ _ _ (.q _ _) _; refine D_q rfl ?_) | (show drJ _ _ _ _ _ _ _ (.e _ _) _; refine D_e rfl ?_) | (show drJ _ _ _ _ _ _ _ (.f _ _ _ _) _; refine D_f rfl rfl ?_ ?_) | (show drJ _ _ _ _ _ _ _ (.done _) _; refine D_done ?_; simp only [List.cons_append, List.nil_append]) | (show drQ _ _ _ _ _ _; first | refine D_ev rfl (Ev_pure rfl) rfl rfl ?_ | (show drQ _ _ _ ⟨_, .load _ _, _, _, _, _⟩ _ _; refine D_ev rfl (Ev_loadO1 (i := 1) rfl rfl rfl) rfl rfl ?_) | (show drQ _ _ _ ⟨_, .fieldAddr _ _ _, _, _, _, _⟩ _ _; refine D_ev rfl (Ev_fieldAddr rfl rfl rfl) rfl rfl ?_) | (show drQ _ _ _ ⟨_, .binOp _ _ _ _ _, _, _, _, _⟩ _ _; refine D_ev rfl (Ev_add rfl rfl (wi64 (by omega))) rfl rfl ?_) | (show drQ _ _ _ ⟨_, .slice _ _ _ _ _, _, _, _, _⟩ _ _; refine D_ev rfl (Ev_sslicel rfl rfl (by omega) (by omega)) rfl rfl ?_) | (show drQ _ _ _ ⟨_, .nilCheck _, _, _, _, _⟩ _ _; refine D_ev rfl (Ev_nilCheck rfl) rfl rfl ?_)) | (show opsA _ _ _ _ _ _ _; first | refine O_ev WideF.wide rfl (Ev_pure rfl) rfl rfl ?_ | (show opsA _ _ _ _ (⟨_, .load _ _, _, _, _, _⟩ :: _) _ _; refine O_ev WideF.wide rfl (Ev_loadO1 (i := 1) rfl rfl rfl) rfl rfl ?_) | (show opsA _ _ _ _ (⟨_, .fieldAddr _ _ _, _, _, _, _⟩ :: _) _ _; refine O_ev WideF.wide rfl (Ev_fieldAddr rfl rfl rfl) rfl rfl ?_) | (show opsA _ _ _ _ (⟨_, .binOp _ _ _ _ _, _, _, _, _⟩ :: _) _ _; refine O_ev WideF.wide rfl (Ev_add rfl rfl (wi64 (by omega))) rfl rfl ?_) | (show opsA _ _ _ _ (⟨_, .nilCheck _, _, _, _, _⟩ :: _) _ _; refine O_ev WideF.wide rfl (Ev_nilCheck rfl) rfl rfl ?_)) | (show wpA _ _ _ (.cond _ _ _) _ _ _ _; refine A_iffalse rfl ?_))
      all_goals
        refine Shift_perm (List.Perm.swap _ _ _) ?_
        exact End_m (Ret0 rfl) ⟨rfl, _, _, _, ⟨p, v, R, hpp, hB, rfl⟩, rfl⟩
end Go.Proofs.YtaneeaojlkenmaaGreatDoor
