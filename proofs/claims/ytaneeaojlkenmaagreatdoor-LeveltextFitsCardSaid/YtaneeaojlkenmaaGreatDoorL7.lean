/-
  Parse of the program: control characters, the scanner's loop.
-/
import Derived.Test.YtaneeaojlkenmaaGreatDoorL4
namespace Go.Proofs.YtaneeaojlkenmaaGreatDoor
open Go
set_option linter.unusedVariables false
set_option linter.unusedSimpArgs false
abbrev ptr (b : Nat) : Value := .pointer (some ⟨b, 0, none⟩)
def ctrl (b : UInt8) : Prop := b.toNat < 32 ∨ b.toNat = 127
instance (b : UInt8) : Decidable (ctrl b) := inferInstanceAs (Decidable (_ ∨ _))
theorem control_iff (l : List UInt8) : control l ↔ ∃ b ∈ l, ctrl b := Iff.rfl
theorem control_drop {l : List UInt8} {i : Nat} {x : UInt8} (hx : l.drop i = x :: l.drop (i + 1)) : (∃ b ∈ l.drop i, ctrl b) ↔ ctrl x ∨ ∃ b ∈ l.drop (i + 1), ctrl b := by
  rw [hx]; simp
theorem End_nilrow {c : Ctx} {P : Program} {fn : Func} {n : Nat} {e : Env} {H : Hp} {M L : Own} {v : Value} {post : Value → Hp → Own → Prop} (k : Nat) (h : RetOk P fn ⟨n, e, H, M, L, []⟩ v) (hp : post v H [.row (.slice none 0 0) k []]) :
    Shift c (EndOf c P fn post) ⟨n, e, H, M, L, []⟩ :=
  Shift.pure ⟨v, h, rfl, fun _ _ hs => ⟨⟨n, e, H, [.row (.slice none 0 0) k []], [], []⟩, ⟨(ok_drop hs).defers, (ok_drop hs).size, (ok_drop hs).env, (ok_drop hs).holds.nilrow k⟩, rfl, hp⟩⟩
theorem Fn.frozen {P : Program} {f : FuncId} {args : List Value} {H : Hp} {I : Own} {post post' : Value → Hp → Own → Prop} (h : Fn P f args H I post)
    (hp : ∀ v H' I', post v H' I' → ∃ a n c k css, I' = [.row (.slice a n c) k css] ∧ (∀ cs ∈ css, ∀ u ∈ cs, u.oneCell' = true) ∧ ∀ H'', HLe H' H'' → HRow H'' a n c k css → post' v H'' []) : Fn P f args H I post' :=
  fun w hw => (h w hw).mono fun _ w' ⟨v, H', I', he, hh, hq⟩ => by
    obtain ⟨a, n, c, k, css, rfl, h1, h2⟩ := hp _ _ _ hq
    obtain ⟨H'', hle, hr, hh'⟩ := Holds.freeze (R := []) hh h1
    exact ⟨v, H'', [], he, hh', h2 H'' hle hr⟩
attribute [local irreducible] wpA opsA drJ drQ drE Ef Ev Shift Fn
set_option maxRecDepth 100000 in
theorem ctrl_fn {H : Hp} {b : UInt8} : FnP Tryz.prog 36 [.int .u8 (b.toNat : Int)] H (.bool (decide (ctrl b))) := by
  by_cases h1 : b.toNat < 32
  · rw [decide_eq_true (show ctrl b from .inl h1)]
    refine Fn_of _ _ Tryz.func36 rfl Tryz.ntmps36 rfl fun c => ?_
    repeat' (first | refine O_nil ?_ | refine A_seq ?_ | refine A_region ?_ | refine A_ret ?_ | (show opsA _ _ _ _ _ _ _; first | (refine O_split rfl rfl (fun h => ?_) (fun h => ?_) <;> try (exfalso; omega)) | refine O_ev WideF.wide rfl (Ev_pure rfl) rfl rfl ?_ | refine O_skip WideF.wide rfl rfl rfl ?_))
    all_goals first
      | (exfalso; omega)
      | exact End_p (Ret1 rfl rfl) rfl
  · have e : decide (ctrl b) = decide ((b.toNat : Int) = 127) := by rw [decide_eq_decide]; unfold ctrl; omega
    rw [e]
    refine Fn_of _ _ Tryz.func36 rfl Tryz.ntmps36 rfl fun c => ?_
    repeat' (first | refine O_nil ?_ | refine A_seq ?_ | refine A_region ?_ | refine A_ret ?_ | (show opsA _ _ _ _ _ _ _; first | (refine O_split rfl rfl (fun h => ?_) (fun h => ?_) <;> try (exfalso; omega)) | refine O_ev WideF.wide rfl (Ev_pure rfl) rfl rfl ?_))
    all_goals first
      | (exfalso; omega)
      | exact End_p (Ret1 rfl rfl) rfl
set_option maxRecDepth 100000 in
theorem IndexB_fn {H : Hp} {b cp : Nat} {l : List UInt8} {rest : List Value} {T : TypeId} (hl : l.length < 68719476736) :
    Fn Tryz.prog 57 [.slice (some ⟨b, 0, none⟩) l.length cp, .func (.func 36) #[] #[]] H [.obj b (sobj l rest T)] fun v H' I' => (∃ r : Int, v = .int .i64 r ∧ (0 ≤ r ↔ control l)) ∧ H' = H ∧ I' = [.obj b (sobj l rest T)] := by
  refine Fn_of _ _ Tryz.func57 rfl Tryz.ntmps57 rfl fun c => ?_
  repeat' (first | refine O_nil ?_ | refine A_seq ?_ | refine A_region ?_ | refine A_block ?_ | (show opsA _ _ _ _ _ _ _; first | refine O_ev WideF.wide rfl (Ev_pure rfl) rfl rfl ?_ | (show opsA _ _ _ _ (⟨_, .call _, _, _, _, _⟩ :: _) _ _; refine O_ev WideF.wide rfl (Ev_llen rfl) rfl rfl ?_)))
  refine A_loopu (fun m s => ∃ i : Nat, m = l.length - i ∧ i ≤ l.length ∧ (control l ↔ ∃ b ∈ l.drop i, ctrl b) ∧ s = ⟨19, [(0, .slice (some ⟨b, 0, none⟩) l.length cp), (1, .func (.func 36) #[] #[]), (7, .int .i64 l.length), (8, .int .i64 i)], H, [.obj b (sobj l rest T)], [], []⟩) ?_ ?_
  · exact Shift.to ⟨_, 0, rfl, by omega, by rw [List.drop_zero]; exact Iff.rfl, rfl⟩ ⟨rfl, rfl, rfl, ⟨rfl, rfl, rfl, rfl, trivial⟩, Own.subi [0] (by decide) rfl rfl⟩
  · rintro m s ⟨i, rfl, hi, hall, rfl⟩
    by_cases hlt : i < l.length
    · obtain ⟨x, hx, _, hb⟩ := drop_at hlt
      rw [control_drop hx] at hall
      have hf := fun Hx => ctrl_fn (H := Hx) (b := x)
      by_cases hc : ctrl x
      · simp only [decide_eq_true hc] at hf
        repeat' (first | (refine O_ev WideF.wide rfl (Ev_loadSm (i := 0) (m := (x.toNat : Int)) rfl rfl (by simp only [Int.toNat_natCast]; omega) (by rw [← hb]; unfold bat; simp)) rfl rfl ?_) | (refine O_ef rfl (Ef_callvp WideF.wide (hf _) rfl ⟨rfl, trivial⟩ rfl ?_)) | refine O_nil ?_ | refine A_seq ?_ | refine A_region ?_ | refine A_skip ?_ | refine A_ret ?_ | refine A_block ?_ | (show opsA _ _ _ _ _ _ _; first | refine O_ev WideF.wide rfl (Ev_pure rfl) rfl rfl ?_ | (show opsA _ _ _ _ (⟨_, .indexAddr _ _ _, _, _, _, _⟩ :: _) _ _; refine O_ev WideF.wide rfl (Ev_indexAddr rfl rfl (by omega) (by omega)) rfl rfl ?_)) | (show wpA _ _ _ (.cond _ _ _) _ _ _ _; first | (refine A_if rfl (fun h => ?_) (fun h => ?_) <;> try (exfalso; omega)) | refine A_iftrue rfl ?_))
        exact End_m (Ret1 rfl rfl) ⟨⟨_, rfl, ⟨fun _ => hall.2 (.inl hc), fun _ => by omega⟩⟩, rfl, rfl⟩
      · simp only [decide_eq_false hc] at hf
        repeat' (first | (refine O_ev WideF.wide rfl (Ev_loadSm (i := 0) (m := (x.toNat : Int)) rfl rfl (by simp only [Int.toNat_natCast]; omega) (by rw [← hb]; unfold bat; simp)) rfl rfl ?_) | (refine O_ef rfl (Ef_callvp WideF.wide (hf _) rfl ⟨rfl, trivial⟩ rfl ?_)) | refine O_nil ?_ | refine A_seq ?_ | refine A_region ?_ | refine A_skip ?_ | refine A_block ?_ | (show opsA _ _ _ _ _ _ _; first | refine O_ev WideF.wide rfl (Ev_pure rfl) rfl rfl ?_ | (show opsA _ _ _ _ (⟨_, .indexAddr _ _ _, _, _, _, _⟩ :: _) _ _; refine O_ev WideF.wide rfl (Ev_indexAddr rfl rfl (by omega) (by omega)) rfl rfl ?_) | (show opsA _ _ _ _ (⟨_, .binOp _ _ _ _ _, _, _, _, _⟩ :: _) _ _; refine O_ev WideF.wide rfl (Ev_add rfl rfl (wi64 (by omega))) rfl rfl ?_)) | (show wpA _ _ _ (.cond _ _ _) _ _ _ _; first | (refine A_if rfl (fun h => ?_) (fun h => ?_) <;> try (exfalso; omega)) | refine A_iffalse rfl ?_))
        refine Shift.to ⟨_, ?_, i + 1, rfl, by omega, hall.trans ⟨fun h => h.elim (fun h => absurd h hc) id, .inr⟩, rfl⟩ ⟨rfl, rfl, rfl, ⟨rfl, rfl, rfl, rfl, trivial⟩, Own.subi [0] (by decide) rfl rfl⟩
        omega
    · rw [List.drop_eq_nil_of_le (by omega)] at hall
      repeat' (first | refine O_nil ?_ | refine A_seq ?_ | refine A_region ?_ | refine A_ret ?_ | (show opsA _ _ _ _ _ _ _; refine O_ev WideF.wide rfl (Ev_pure rfl) rfl rfl ?_) | (show wpA _ _ _ (.exit _) _ _ _ _; refine A_exit rfl ?_) | (show wpA _ _ _ (.cond _ _ _) _ _ _ _; (refine A_if rfl (fun h => ?_) (fun h => ?_) <;> try (exfalso; omega))))
      all_goals first
        | (exfalso; omega)
        | exact End_m (Ret1 rfl rfl) ⟨⟨_, rfl, ⟨fun h => absurd h (by decide), fun h => by obtain ⟨_, h, _⟩ := hall.1 h; cases h⟩⟩, rfl, rfl⟩
set_option maxRecDepth 100000 in
theorem ContainsB_fn {H : Hp} {b cp : Nat} {l : List UInt8} {rest : List Value} {T : TypeId} (hl : l.length < 68719476736) :
    Fn Tryz.prog 35 [.slice (some ⟨b, 0, none⟩) l.length cp, .func (.func 36) #[] #[]] H [.obj b (sobj l rest T)] fun v H' I' => v = .bool (decide (control l)) ∧ H' = H ∧ I' = [] := by
  have h := IndexB_fn (H := H) (b := b) (cp := cp) (rest := rest) (T := T) hl
  refine Fn_of _ _ Tryz.func35 rfl Tryz.ntmps35 rfl fun c => ?_
  repeat' (first | (refine O_ef rfl (Ef_call0 WideF.wide h ⟨rfl, rfl, trivial⟩ rfl ?_); rintro v H' I' hk ⟨⟨r, rfl, hr⟩, rfl, rfl⟩) | refine O_nil ?_ | refine A_seq ?_ | refine A_region ?_ | refine A_ret ?_ | (show opsA _ _ _ _ _ _ _; refine O_ev WideF.wide rfl (Ev_pure rfl) rfl rfl ?_))
  refine End_e (Ret1 rfl rfl) ⟨?_, rfl, rfl⟩
  congr 1
  rw [decide_eq_decide]
  exact hr
theorem fls_len (acc : List Pt) (lit : List UInt8) : (fls acc lit).length ≤ acc.length + 1 := by unfold fls; split <;> simp
/-- what the scanner leaves -/
def Scanned (s : List UInt8) (parts : List Pt) (e : Int) : Prop := match scnS s [] [] with
  | none => e = 14
  | some l => parts = l ∧ e = if 9 < places l then 9 else 0
/-- where the scanner's loop stands -/
structure ScanAt (s : List UInt8) (i : Nat) (lit : List UInt8) (parts : List Pt) (pl e : Int) : Prop where
  hi : i ≤ s.length
  hlit : lit.length ≤ i
  hparts : parts.length ≤ 2 * i
  hpl : pl = places parts
  hplb : pl ≤ i
  hgo : (e = 0 ∧ scnS (s.drop i) lit parts = scnS s [] []) ∨ (e = 14 ∧ scnS s [] [] = none)
set_option maxRecDepth 100000 in
set_option maxHeartbeats 1000000 in
theorem scan_fn {H : Hp} {b : Nat} {s : List UInt8} {I : Own} (hs : s.length ≤ 200) (hI : Scn b s 0 [] [] 0 0 I) :
    Fn Tryz.prog 37 [ptr b] H I fun _ H' I' => H' = H ∧ ∃ (i pl e : Int) (parts : List Pt), Scn b s i [] parts pl e I' ∧ Scanned s parts e := by
  refine Fn_of _ _ Tryz.func37 rfl Tryz.ntmps37 rfl fun c => ?_
  repeat' (first | refine A_seq ?_ | refine A_block ?_)
  refine A_loopu (fun m st => ∃ (i : Nat) (lit : List UInt8) (parts : List Pt) (pl e : Int) (J : Own), m = (s.length - i) + (if e = 0 then 1 else 0) ∧ ScanAt s i lit parts pl e ∧ Scn b s i lit parts pl e J ∧ st = ⟨68, [(0, ptr b)], H, J, [], []⟩) ?_ ?_
  · exact Shift.to ⟨_, 0, [], [], 0, 0, I, rfl, ⟨by omega, by simp, by simp, rfl, by omega, .inl ⟨rfl, by rw [List.drop_zero]⟩⟩, hI, rfl⟩ ⟨rfl, rfl, rfl, ⟨rfl, trivial⟩, Own.sub_refl _⟩
  · rintro m st ⟨i, lit, parts, pl, e, J, rfl, hA, ⟨a, cq, I0, ⟨p, v, R, hp, hB, rfl⟩, rfl⟩, rfl⟩
    obtain ⟨h1, h2, h3, h4, h5, h6⟩ := hA
    have hJ : Scn b s i lit parts pl e (.row (.slice a parts.length cq) 3 (parts.map prow) :: .obj b (cobj [sv s, .int .i64 i, .pointer p, v, .slice a parts.length cq, .int .i64 pl, .int .i64 e] scT) :: R) := ⟨a, cq, _, ⟨p, v, R, hp, hB, rfl⟩, rfl⟩
    by_cases hlt : i < s.length ∧ e = 0
    · obtain ⟨hlt, rfl⟩ := hlt
      have hgo : scnS (s.drop i) lit parts = scnS s [] [] := h6.elim (fun h => h.2) (fun h => absurd h.1 (by decide))
      obtain ⟨x, hx, hxi, hbt⟩ := drop_at hlt
      by_cases hc : x = 37
      · subst hc
        have hpc := fun Hx => percent_fn (H := Hx) hJ (by omega) (by omega) (by omega) hxi (by omega)
        have hbt : bat s (i : Int) = 37 := hbt
        repeat' (first | (refine A_drawL WideF.wide (.q 0 (.q 1 (.q 2 (.q 3 (.q 4 (.q 5 (.q 6 (.q 7 (.q 8 (.q 9 (.q 10 (.q 11 (.q 12 (.q 13 (.q 14 (.q 15 (.q 16 (.done [])))))))))))))))))) [] (by decide +kernel) ?_) | (refine A_drawL WideF.wide (.q 0 (.q 1 (.q 2 (.q 3 (.q 4 (.q 5 (.q 6 (.q 7 (.q 8 (.q 9 (.done []))))))))))) [] (by decide +kernel) ?_) | (refine O_ef rfl (Ef_call0 WideF.wide (hpc _) ⟨rfl, trivial⟩ rfl ?_); rintro u H1 J1 hle1 ⟨rfl, hJ1⟩) | refine O_nil ?_ | refine A_seq ?_ | refine A_region ?_ | refine A_skip ?_ | refine A_block ?_ | (show drJ _ _ _ _ _ _ _ (.q _ _) _; refine D_q rfl ?_) | (show drJ _ _ _ _ _ _ _ (.done _) _; refine D_done ?_; simp only [List.cons_append, List.nil_append]) | (show drQ _ _ _ _ _ _; first | (refine D_split rfl rfl (fun h => ?_) (fun h => ?_) <;> try (exfalso; omega)) | refine D_ev rfl (Ev_pure rfl) rfl rfl ?_ | (show drQ _ _ _ ⟨_, .load _ _, _, _, _, _⟩ _ _; refine D_ev rfl (Ev_loadO1 (i := 1) rfl rfl rfl) rfl rfl ?_) | (show drQ _ _ _ ⟨_, .fieldAddr _ _ _, _, _, _, _⟩ _ _; refine D_ev rfl (Ev_fieldAddr rfl rfl rfl) rfl rfl ?_) | (show drQ _ _ _ ⟨_, .call _, _, _, _, _⟩ _ _; refine D_ev rfl (Ev_slen rfl) rfl rfl ?_) | (show drQ _ _ _ ⟨_, .index _ _ _, _, _, _, _⟩ _ _; refine D_ev rfl (Ev_sindex rfl rfl (by omega) (by omega)) rfl rfl ?_) | (show drQ _ _ _ ⟨_, .nilCheck _, _, _, _, _⟩ _ _; refine D_ev rfl (Ev_nilCheck rfl) rfl rfl ?_)) | (show opsA _ _ _ _ _ _ _; refine O_ev WideF.wide rfl (Ev_pure rfl) rfl rfl ?_) | (show wpA _ _ _ (.exit _) _ _ _ _; refine A_exit rfl ?_) | (show wpA _ _ _ (.cond _ _ _) _ _ _ _; (refine A_if rfl (fun h => ?_) (fun h => ?_) <;> try (exfalso; omega))))
        all_goals try (exfalso; exact absurd trivial (by assumption))
        unfold PctR at hJ1
        rw [hx] at hgo
        cases hq : pct (s.drop (i + 1)) with
        | bad =>
          rw [hq] at hJ1
          rw [scnS_bad hq] at hgo
          exact Shift.to ⟨_, by simp, i, lit, parts, pl, 14, J1, rfl, ⟨h1, h2, h3, h4, h5, .inr ⟨rfl, hgo.symm⟩⟩, hJ1, rfl⟩ ⟨rfl, rfl, rfl, ⟨rfl, trivial⟩, Own.sub_refl _⟩
        | sign =>
          rw [hq] at hJ1
          rw [scnS_sign hq, List.drop_drop] at hgo
          have hlt2 : i + 1 < s.length := by
            rcases Nat.lt_or_ge (i + 1) s.length with h | h
            · exact h
            · rw [List.drop_eq_nil_of_le h] at hq; cases hq
          refine Shift.to ⟨_, ?_, i + 2, lit ++ [37], parts, pl, 0, J1, rfl, ⟨by omega, by simp; omega, by omega, h4, by omega, .inl ⟨rfl, hgo⟩⟩, ?_, rfl⟩ ⟨rfl, rfl, rfl, ⟨rfl, trivial⟩, Own.sub_refl _⟩
          · simp; omega
          · rw [show ((i + 2 : Nat) : Int) = (i : Int) + 2 by omega]; exact hJ1
        | place q n =>
          rw [hq] at hJ1
          rw [scnS_place hq, List.drop_drop] at hgo
          obtain ⟨p1, p2, p3, p4, p5, p6⟩ := pct_place hq
          rw [List.length_drop] at p1
          have hfl := fls_len parts lit
          refine Shift.to ⟨_, ?_, i + 1 + n, [], fls parts lit ++ [q], pl + 1, 0, J1, rfl, ⟨by omega, by simp, by simp; omega, ?_, by omega, .inl ⟨rfl, hgo⟩⟩, ?_, rfl⟩ ⟨rfl, rfl, rfl, ⟨rfl, trivial⟩, Own.sub_refl _⟩
          · simp; omega
          · rw [places_append, places_fls, h4]
            have : places [q] = 1 := by unfold places; rw [List.filter_cons, if_pos (by simp; omega)]; rfl
            rw [this]; omega
          · rw [show ((i + 1 + n : Nat) : Int) = (i : Int) + 1 + n by omega]; exact hJ1
      · have hbt : bat s (i : Int) ≠ 37 := fun h => hc (UInt8.toNat_inj.1 (by rw [h] at hbt; show x.toNat = 37; omega))
        have hSb : ScB b (sv s) (.int .i64 i) (.slice a parts.length cq) (.int .i64 pl) (.int .i64 0) lit (.obj b (cobj [sv s, .int .i64 i, .pointer p, v, .slice a parts.length cq, .int .i64 pl, .int .i64 0] scT) :: R) := ⟨p, v, R, hp, hB, rfl⟩
        have hw := fun Hx => WriteByte_fn (H := Hx) (u := x) hSb (by omega)
        rename_i hbt0
        simp only [← hbt0] at hw
        rw [hx, scnS_lit hc] at hgo
        repeat' (first | (refine A_drawL WideF.wide (.q 0 (.q 1 (.q 2 (.q 3 (.q 4 (.q 5 (.q 6 (.q 7 (.q 8 (.q 9 (.q 10 (.q 11 (.q 12 (.q 13 (.q 14 (.q 15 (.q 16 (.done [])))))))))))))))))) [] (by decide +kernel) ?_) | (refine A_drawL WideF.wide (.q 0 (.q 1 (.q 2 (.q 3 (.q 4 (.q 5 (.q 6 (.q 7 (.q 8 (.q 9 (.done []))))))))))) [] (by decide +kernel) ?_) | (refine A_drawL WideF.wide (.p 0 (.p 1 (.p 2 (.p 3 (.q 4 (.q 5 (.q 6 (.p 7 (.q 8 (.q 9 (.q 10 (.r (.q 11 (.e 12 (.done []))))))))))))))) [11, 12] (by decide +kernel) ?_) | (show drJ _ _ _ _ _ _ _ (.r _) _; refine D_r ?_; rw [List.nil_append]) | (refine E_ef rfl (Ef_call1 WideF.wide (hw _) ⟨rfl, rfl, trivial⟩ rfl ?_); rintro u H1 I1 hle1 ⟨rfl, p1, v1, R1, hp1, hB1, rfl⟩; refine ⟨⟨HLe.refl _, rfl⟩, ?_⟩) | (refine O_f1 (O_ef rfl (Ef_storeO1 WideF.wide rfl rfl rfl rfl rfl ?_))) | refine O_nil ?_ | refine A_seq ?_ | refine A_region ?_ | refine A_skip ?_ | refine A_block ?_ | (show drJ _ _ _ _ _ _ _ (.q _ _) _; refine D_q rfl ?_) | (show drJ _ _ _ _ _ _ _ (.e _ _) _; refine D_e rfl ?_) | (show drJ _ _ _ _ _ _ _ (.done _) _; refine D_done ?_; simp only [List.cons_append, List.nil_append]) | (show drQ _ _ _ _ _ _; first | (refine D_split rfl rfl (fun h => ?_) (fun h => ?_) <;> try (exfalso; omega)) | refine D_ev rfl (Ev_pure rfl) rfl rfl ?_ | (show drQ _ _ _ ⟨_, .load _ _, _, _, _, _⟩ _ _; refine D_ev rfl (Ev_loadO1 (i := 1) rfl rfl rfl) rfl rfl ?_) | (show drQ _ _ _ ⟨_, .fieldAddr _ _ _, _, _, _, _⟩ _ _; refine D_ev rfl (Ev_fieldAddr rfl rfl rfl) rfl rfl ?_) | (show drQ _ _ _ ⟨_, .call _, _, _, _, _⟩ _ _; refine D_ev rfl (Ev_slen rfl) rfl rfl ?_) | (show drQ _ _ _ ⟨_, .index _ _ _, _, _, _, _⟩ _ _; refine D_ev rfl (Ev_sindex rfl rfl (by omega) (by omega)) rfl rfl ?_) | (show drQ _ _ _ ⟨_, .nilCheck _, _, _, _, _⟩ _ _; refine D_ev rfl (Ev_nilCheck rfl) rfl rfl ?_)) | (show drJ _ _ _ _ _ _ _ (.p _ _) _; refine D_p rfl ?_) | (show drP _ _ _ _ _ _; first | refine D_pv rfl (Ev_pure rfl) rfl rfl ?_ | (show drP _ _ _ ⟨_, .fieldAddr _ _ _, _, _, _, _⟩ _ _; refine D_pv rfl (Ev_fieldAddr rfl rfl rfl) rfl rfl ?_) | (show drP _ _ _ ⟨_, .nilCheck _, _, _, _, _⟩ _ _; refine D_pv rfl (Ev_nilCheck rfl) rfl rfl ?_)) | (show opsA _ _ _ _ _ _ _; first | refine O_ev WideF.wide rfl (Ev_pure rfl) rfl rfl ?_ | (show opsA _ _ _ _ (⟨_, .load _ _, _, _, _, _⟩ :: _) _ _; refine O_ev WideF.wide rfl (Ev_loadO1 (i := 1) rfl rfl rfl) rfl rfl ?_) | (show opsA _ _ _ _ (⟨_, .fieldAddr _ _ _, _, _, _, _⟩ :: _) _ _; refine O_ev WideF.wide rfl (Ev_fieldAddr rfl rfl rfl) rfl rfl ?_) | (show opsA _ _ _ _ (⟨_, .binOp _ _ _ _ _, _, _, _, _⟩ :: _) _ _; refine O_ev WideF.wide rfl (Ev_add rfl rfl (wi64 (by omega))) rfl rfl ?_) | (show opsA _ _ _ _ (⟨_, .nilCheck _, _, _, _, _⟩ :: _) _ _; refine O_ev WideF.wide rfl (Ev_nilCheck rfl) rfl rfl ?_)) | (show wpA _ _ _ (.exit _) _ _ _ _; refine A_exit rfl ?_) | (show wpA _ _ _ (.cond _ _ _) _ _ _ _; (refine A_if rfl (fun h => ?_) (fun h => ?_) <;> try (exfalso; omega))))
        all_goals try (exfalso; exact absurd trivial (by assumption))
        rw [List.append_nil]
        refine Shift_perm (List.Perm.swap _ _ _) ?_
        refine Shift.to ⟨_, ?_, i + 1, lit ++ [x], parts, pl, 0, _, rfl, ⟨by omega, by simp; omega, by omega, h4, by omega, .inl ⟨rfl, hgo⟩⟩, ⟨_, _, _, ⟨p1, v1, R1, hp1, hB1, rfl⟩, rfl⟩, rfl⟩ ⟨rfl, rfl, rfl, ⟨rfl, trivial⟩, Own.sub_refl _⟩
        simp; omega
    · have hfl := fun Hx => flush_fn (H := Hx) hJ (by omega) (by omega)
      have hpf := places_fls parts lit
      have hcase : (e = 14 ∧ scnS s [] [] = none) ∨ (e = 0 ∧ scnS s [] [] = some (fls parts lit) ∧ i = s.length) := by
        rcases h6 with ⟨rfl, h⟩ | h
        · have : i = s.length := by
            rcases Nat.lt_or_ge i s.length with h' | h'
            · exact absurd ⟨h', rfl⟩ hlt
            · omega
          subst this
          rw [List.drop_length, scnS_nil] at h
          exact .inr ⟨rfl, h.symm, rfl⟩
        · exact .inl h
      rcases hcase with ⟨rfl, hno⟩ | ⟨rfl, hsm, rfl⟩
      · repeat' (first | (refine A_drawL WideF.wide (.q 0 (.q 1 (.q 2 (.q 3 (.q 4 (.q 5 (.q 6 (.q 7 (.q 8 (.q 9 (.q 10 (.q 11 (.q 12 (.q 13 (.q 14 (.q 15 (.q 16 (.done [])))))))))))))))))) [] (by decide +kernel) ?_) | (refine O_ef rfl (Ef_call0 WideF.wide (hfl _) ⟨rfl, trivial⟩ rfl ?_); rintro u H1 J1 hle1 ⟨rfl, a1, c1, I1, ⟨p1, v1, R1, hp1, hB1, rfl⟩, rfl⟩) | refine O_nil ?_ | refine A_seq ?_ | refine A_region ?_ | refine A_skip ?_ | (show drJ _ _ _ _ _ _ _ (.q _ _) _; refine D_q rfl ?_) | (show drJ _ _ _ _ _ _ _ (.done _) _; refine D_done ?_; simp only [List.cons_append, List.nil_append]) | (show drQ _ _ _ _ _ _; first | (refine D_split rfl rfl (fun h => ?_) (fun h => ?_) <;> try (exfalso; omega)) | refine D_ev rfl (Ev_pure rfl) rfl rfl ?_ | (show drQ _ _ _ ⟨_, .load _ _, _, _, _, _⟩ _ _; refine D_ev rfl (Ev_loadO1 (i := 1) rfl rfl rfl) rfl rfl ?_) | (show drQ _ _ _ ⟨_, .fieldAddr _ _ _, _, _, _, _⟩ _ _; refine D_ev rfl (Ev_fieldAddr rfl rfl rfl) rfl rfl ?_) | (show drQ _ _ _ ⟨_, .call _, _, _, _, _⟩ _ _; refine D_ev rfl (Ev_slen rfl) rfl rfl ?_) | (show drQ _ _ _ ⟨_, .nilCheck _, _, _, _, _⟩ _ _; refine D_ev rfl (Ev_nilCheck rfl) rfl rfl ?_) | refine D_skip rfl rfl rfl ?_) | (show opsA _ _ _ _ _ _ _; first | (refine O_split rfl rfl (fun h => ?_) (fun h => ?_) <;> try (exfalso; omega)) | refine O_ev WideF.wide rfl (Ev_pure rfl) rfl rfl ?_ | (show opsA _ _ _ _ (⟨_, .load _ _, _, _, _, _⟩ :: _) _ _; refine O_ev WideF.wide rfl (Ev_loadO1 (i := 1) rfl rfl rfl) rfl rfl ?_) | (show opsA _ _ _ _ (⟨_, .fieldAddr _ _ _, _, _, _, _⟩ :: _) _ _; refine O_ev WideF.wide rfl (Ev_fieldAddr rfl rfl rfl) rfl rfl ?_) | (show opsA _ _ _ _ (⟨_, .nilCheck _, _, _, _, _⟩ :: _) _ _; refine O_ev WideF.wide rfl (Ev_nilCheck rfl) rfl rfl ?_) | refine O_skip WideF.wide rfl rfl rfl ?_) | (show wpA _ _ _ (.exit _) _ _ _ _; refine A_exit rfl ?_) | (show wpA _ _ _ (.cond _ _ _) _ _ _ _; first | (refine A_if rfl (fun h => ?_) (fun h => ?_) <;> try (exfalso; omega)) | refine A_iffalse rfl ?_))
        all_goals exact End_m (Ret0 rfl) ⟨rfl, i, pl, 14, fls parts lit, ⟨a1, c1, _, ⟨p1, v1, R1, hp1, hB1, rfl⟩, rfl⟩, by unfold Scanned; rw [hno]⟩
      · have hsc : Scanned s (fls parts lit) (if 9 < pl then 9 else 0) := by
          unfold Scanned
          rw [hsm]
          refine ⟨rfl, ?_⟩
          rw [hpf, h4]
          by_cases h : 9 < places parts
          · rw [if_pos h, if_pos (by omega)]
          · rw [if_neg h, if_neg (by omega)]
        by_cases h9 : 9 < pl
        · rw [if_pos h9] at hsc
          repeat' (first | (refine A_drawL WideF.wide (.q 0 (.q 1 (.q 2 (.q 3 (.q 4 (.q 5 (.q 6 (.q 7 (.q 8 (.q 9 (.q 10 (.q 11 (.q 12 (.q 13 (.q 14 (.q 15 (.q 16 (.done [])))))))))))))))))) [] (by decide +kernel) ?_) | (refine O_ef rfl (Ef_call0 WideF.wide (hfl _) ⟨rfl, trivial⟩ rfl ?_); rintro u H1 J1 hle1 ⟨rfl, a1, c1, I1, ⟨p1, v1, R1, hp1, hB1, rfl⟩, rfl⟩) | (refine O_f1 (O_ef rfl (Ef_storeO1 WideF.wide rfl rfl rfl rfl rfl ?_))) | refine O_nil ?_ | refine A_seq ?_ | refine A_region ?_ | (show drJ _ _ _ _ _ _ _ (.q _ _) _; refine D_q rfl ?_) | (show drJ _ _ _ _ _ _ _ (.done _) _; refine D_done ?_; simp only [List.cons_append, List.nil_append]) | (show drQ _ _ _ _ _ _; first | (refine D_split rfl rfl (fun h => ?_) (fun h => ?_) <;> try (exfalso; omega)) | refine D_ev rfl (Ev_pure rfl) rfl rfl ?_ | (show drQ _ _ _ ⟨_, .load _ _, _, _, _, _⟩ _ _; refine D_ev rfl (Ev_loadO1 (i := 1) rfl rfl rfl) rfl rfl ?_) | (show drQ _ _ _ ⟨_, .fieldAddr _ _ _, _, _, _, _⟩ _ _; refine D_ev rfl (Ev_fieldAddr rfl rfl rfl) rfl rfl ?_) | (show drQ _ _ _ ⟨_, .call _, _, _, _, _⟩ _ _; refine D_ev rfl (Ev_slen rfl) rfl rfl ?_) | (show drQ _ _ _ ⟨_, .nilCheck _, _, _, _, _⟩ _ _; refine D_ev rfl (Ev_nilCheck rfl) rfl rfl ?_) | refine D_skip rfl rfl rfl ?_) | (show opsA _ _ _ _ _ _ _; first | (refine O_split rfl rfl (fun h => ?_) (fun h => ?_) <;> try (exfalso; omega)) | refine O_ev WideF.wide rfl (Ev_pure rfl) rfl rfl ?_ | (show opsA _ _ _ _ (⟨_, .load _ _, _, _, _, _⟩ :: _) _ _; refine O_ev WideF.wide rfl (Ev_loadO1 (i := 1) rfl rfl rfl) rfl rfl ?_) | (show opsA _ _ _ _ (⟨_, .fieldAddr _ _ _, _, _, _, _⟩ :: _) _ _; refine O_ev WideF.wide rfl (Ev_fieldAddr rfl rfl rfl) rfl rfl ?_) | (show opsA _ _ _ _ (⟨_, .nilCheck _, _, _, _, _⟩ :: _) _ _; refine O_ev WideF.wide rfl (Ev_nilCheck rfl) rfl rfl ?_)) | (show wpA _ _ _ (.exit _) _ _ _ _; refine A_exit rfl ?_) | (show wpA _ _ _ (.cond _ _ _) _ _ _ _; first | (refine A_if rfl (fun h => ?_) (fun h => ?_) <;> try (exfalso; omega)) | refine A_iffalse rfl ?_))
          all_goals first
            | (exfalso; omega)
            | (refine Shift_perm (List.Perm.swap _ _ _) ?_
               exact End_m (Ret0 rfl) ⟨rfl, _, pl, 9, fls parts lit, ⟨a1, c1, _, ⟨p1, v1, R1, hp1, hB1, rfl⟩, rfl⟩, hsc⟩)
        · rw [if_neg h9] at hsc
          repeat' (first | (refine A_drawL WideF.wide (.q 0 (.q 1 (.q 2 (.q 3 (.q 4 (.q 5 (.q 6 (.q 7 (.q 8 (.q 9 (.q 10 (.q 11 (.q 12 (.q 13 (.q 14 (.q 15 (.q 16 (.done [])))))))))))))))))) [] (by decide +kernel) ?_) | (refine O_ef rfl (Ef_call0 WideF.wide (hfl _) ⟨rfl, trivial⟩ rfl ?_); rintro u H1 J1 hle1 ⟨rfl, a1, c1, I1, ⟨p1, v1, R1, hp1, hB1, rfl⟩, rfl⟩) | refine O_nil ?_ | refine A_seq ?_ | refine A_region ?_ | refine A_skip ?_ | (show drJ _ _ _ _ _ _ _ (.q _ _) _; refine D_q rfl ?_) | (show drJ _ _ _ _ _ _ _ (.done _) _; refine D_done ?_; simp only [List.cons_append, List.nil_append]) | (show drQ _ _ _ _ _ _; first | (refine D_split rfl rfl (fun h => ?_) (fun h => ?_) <;> try (exfalso; omega)) | refine D_ev rfl (Ev_pure rfl) rfl rfl ?_ | (show drQ _ _ _ ⟨_, .load _ _, _, _, _, _⟩ _ _; refine D_ev rfl (Ev_loadO1 (i := 1) rfl rfl rfl) rfl rfl ?_) | (show drQ _ _ _ ⟨_, .fieldAddr _ _ _, _, _, _, _⟩ _ _; refine D_ev rfl (Ev_fieldAddr rfl rfl rfl) rfl rfl ?_) | (show drQ _ _ _ ⟨_, .call _, _, _, _, _⟩ _ _; refine D_ev rfl (Ev_slen rfl) rfl rfl ?_) | (show drQ _ _ _ ⟨_, .nilCheck _, _, _, _, _⟩ _ _; refine D_ev rfl (Ev_nilCheck rfl) rfl rfl ?_) | refine D_skip rfl rfl rfl ?_) | (show opsA _ _ _ _ _ _ _; first | (refine O_split rfl rfl (fun h => ?_) (fun h => ?_) <;> try (exfalso; omega)) | refine O_ev WideF.wide rfl (Ev_pure rfl) rfl rfl ?_ | (show opsA _ _ _ _ (⟨_, .load _ _, _, _, _, _⟩ :: _) _ _; refine O_ev WideF.wide rfl (Ev_loadO1 (i := 1) rfl rfl rfl) rfl rfl ?_) | (show opsA _ _ _ _ (⟨_, .fieldAddr _ _ _, _, _, _, _⟩ :: _) _ _; refine O_ev WideF.wide rfl (Ev_fieldAddr rfl rfl rfl) rfl rfl ?_) | (show opsA _ _ _ _ (⟨_, .nilCheck _, _, _, _, _⟩ :: _) _ _; refine O_ev WideF.wide rfl (Ev_nilCheck rfl) rfl rfl ?_)) | (show wpA _ _ _ (.exit _) _ _ _ _; refine A_exit rfl ?_) | (show wpA _ _ _ (.cond _ _ _) _ _ _ _; first | (refine A_if rfl (fun h => ?_) (fun h => ?_) <;> try (exfalso; omega)) | refine A_iffalse rfl ?_))
          all_goals first
            | (exfalso; omega)
            | exact End_m (Ret0 rfl) ⟨rfl, _, pl, 0, fls parts lit, ⟨a1, c1, _, ⟨p1, v1, R1, hp1, hB1, rfl⟩, rfl⟩, hsc⟩
/-- what Parse hands back: a row of one's own -/
def ParseO (s : List UInt8) (v : Value) (I : Own) : Prop := ∃ a c, v = .tuple [.slice a (tplE s).1.length c, .int .i64 (tplE s).2].toArray ∧ I = [.row (.slice a (tplE s).1.length c) 3 ((tplE s).1.map prow)]
/-- .. turned persistent -/
def ParseH (s : List UInt8) (v : Value) (H : Hp) (I : Own) : Prop := ∃ a n c, v = .tuple [.slice a n c, .int .i64 (tplE s).2].toArray ∧ HRow H a n c 3 ((tplE s).1.map prow) ∧ I = []
theorem tplE_scanned {s : List UInt8} {parts : List Pt} {e : Int} (h1 : ¬ 64 < s.length) (h2 : valid s) (h3 : ¬ control s) (h : Scanned s parts e) : tplE s = (if e = 0 then parts else [], e) := by
  rw [tplE_def, if_neg h1, if_neg (fun h => h h2), if_neg h3]
  unfold Scanned at h
  cases hs : scnS s [] [] with
  | none => rw [hs] at h; simp only at h; rw [h]; rfl
  | some l =>
    rw [hs] at h
    obtain ⟨rfl, rfl⟩ := h
    by_cases h9 : 9 < places parts
    · simp only [if_pos h9]; rfl
    · simp only [if_neg h9]; rfl
set_option maxRecDepth 100000 in
set_option maxHeartbeats 1000000 in
theorem Parse_own {H : Hp} {s : List UInt8} (hs : s.length < 1099511627776) : Fn Tryz.prog 14 [sv s] H [] fun v _ I => ParseO s v I := by
  have hv := fun Hx => Valid_fn Hx s (by omega)
  by_cases h1 : 64 < s.length
  · have e : tplE s = ([], 10) := by rw [tplE_def, if_pos h1]
    unfold ParseO
    rw [e]
    refine Fn_of _ _ Tryz.func14 rfl Tryz.ntmps14 rfl fun c => ?_
    repeat' (first | refine O_nil ?_ | refine A_seq ?_ | refine A_region ?_ | refine A_ret ?_ | refine A_block ?_ | (show opsA _ _ _ _ _ _ _; first | refine O_ev WideF.wide rfl (Ev_pure rfl) rfl rfl ?_ | (show opsA _ _ _ _ (⟨_, .call _, _, _, _, _⟩ :: _) _ _; refine O_ev WideF.wide rfl (Ev_slen rfl) rfl rfl ?_)) | (show wpA _ _ _ (.cond _ _ _) _ _ _ _; (refine A_if rfl (fun h => ?_) (fun h => ?_) <;> try (exfalso; omega))))
    all_goals first
      | (exfalso; omega)
      | exact End_nilrow 3 (Ret2 rfl rfl rfl) ⟨none, 0, rfl, rfl⟩
  · by_cases h2 : valid s
    · simp only [decide_eq_true h2] at hv
      by_cases h3 : control s
      · have e : tplE s = ([], 5) := by rw [tplE_def, if_neg h1, if_neg (fun h => h h2), if_pos h3]
        unfold ParseO
        rw [e]
        have hco := fun Hx b cp rest T => ContainsB_fn (H := Hx) (b := b) (cp := cp) (l := s) (rest := rest) (T := T) (by omega)
        simp only [decide_eq_true h3] at hco
        refine Fn_of _ _ Tryz.func14 rfl Tryz.ntmps14 rfl fun c => ?_
        repeat' (first | (refine O_ef rfl (Ef_callp WideF.wide (hv _) ⟨rfl, trivial⟩ rfl ?_)) | (refine O_ef rfl (Ef_strBytes WideF.wide rfl rfl ?_); intro b cp rest hcp) | (refine O_ef rfl (Ef_call0 WideF.wide (hco _ _ _ _ _) ⟨rfl, rfl, trivial⟩ rfl ?_); rintro u H1 I1 hle1 ⟨rfl, rfl, rfl⟩) | refine O_nil ?_ | refine A_seq ?_ | refine A_region ?_ | refine A_ret ?_ | refine A_block ?_ | (show opsA _ _ _ _ _ _ _; first | refine O_ev WideF.wide rfl (Ev_pure rfl) rfl rfl ?_ | (show opsA _ _ _ _ (⟨_, .call _, _, _, _, _⟩ :: _) _ _; refine O_ev WideF.wide rfl (Ev_slen rfl) rfl rfl ?_) | (show opsA _ _ _ _ (⟨_, .unOp _ _ _, _, _, _, _⟩ :: _) _ _; refine O_ev WideF.wide rfl (Ev_notb rfl) rfl rfl ?_)) | (show wpA _ _ _ (.cond _ _ _) _ _ _ _; first | (refine A_if rfl (fun h => ?_) (fun h => ?_) <;> try (exfalso; omega)) | refine A_iftrue rfl ?_ | refine A_iffalse rfl ?_))
        all_goals first
          | (exfalso; omega)
          | exact End_nilrow 3 (Ret2 rfl rfl rfl) ⟨none, 0, rfl, rfl⟩
      · have hco := fun Hx b cp rest T => ContainsB_fn (H := Hx) (b := b) (cp := cp) (l := s) (rest := rest) (T := T) (by omega)
        simp only [decide_eq_false h3] at hco
        have hsc := fun Hx b I (hI : Scn b s 0 [] [] 0 0 I) => scan_fn (H := Hx) (by omega) hI
        refine Fn_of _ _ Tryz.func14 rfl Tryz.ntmps14 rfl fun c => ?_
        repeat' (first | (refine O_ef rfl (Ef_callp WideF.wide (hv _) ⟨rfl, trivial⟩ rfl ?_)) | (refine O_ef rfl (Ef_strBytes WideF.wide rfl rfl ?_); intro b cp rest hcp) | (refine O_ef rfl (Ef_call0 WideF.wide (hco _ _ _ _ _) ⟨rfl, rfl, trivial⟩ rfl ?_); rintro u H1 I1 hle1 ⟨rfl, rfl, rfl⟩) | (refine A_drawL WideF.wide (.q 0 (.q 1 (.q 2 (.q 3 (.q 4 (.q 5 (.done []))))))) [] (by decide +kernel) ?_) | (refine O_nilrow 3 (O_ef rfl (Ef_boxaO WideF.wide rfl rfl ?_)); intro bc) | (refine O_f1 ?_; refine O_ef rfl (Ef_call0 WideF.wide (hsc _ _ _ ⟨_, _, _, ⟨none, _, [], .inl rfl, .inl ⟨rfl, rfl, rfl⟩, rfl⟩, rfl⟩) ⟨rfl, trivial⟩ rfl ?_); rintro u H2 I2 hle2 ⟨rfl, i, pl, e, parts, ⟨a1, c1, I1, ⟨p1, v1, R1, hp1, hB1, rfl⟩, rfl⟩, hS⟩) | refine O_nil ?_ | refine A_seq ?_ | refine A_region ?_ | refine A_skip ?_ | refine A_ret ?_ | refine A_block ?_ | (show drJ _ _ _ _ _ _ _ (.q _ _) _; refine D_q rfl ?_) | (show drJ _ _ _ _ _ _ _ (.done _) _; refine D_done ?_; simp only [List.cons_append, List.nil_append]) | (show drQ _ _ _ _ _ _; first | refine D_ev rfl (Ev_pure rfl) rfl rfl ?_ | (show drQ _ _ _ ⟨_, .load _ _, _, _, _, _⟩ _ _; refine D_ev rfl (Ev_loadO1 (i := 1) rfl rfl rfl) rfl rfl ?_) | (show drQ _ _ _ ⟨_, .fieldAddr _ _ _, _, _, _, _⟩ _ _; refine D_ev rfl (Ev_fieldAddr rfl rfl rfl) rfl rfl ?_) | (show drQ _ _ _ ⟨_, .nilCheck _, _, _, _, _⟩ _ _; refine D_ev rfl (Ev_nilCheck rfl) rfl rfl ?_)) | (show opsA _ _ _ _ _ _ _; first | refine O_ev WideF.wide rfl (Ev_pure rfl) rfl rfl ?_ | (show opsA _ _ _ _ (⟨_, .load _ _, _, _, _, _⟩ :: _) _ _; refine O_ev WideF.wide rfl (Ev_loadO1 (i := 1) rfl rfl rfl) rfl rfl ?_) | (show opsA _ _ _ _ (⟨_, .fieldAddr _ _ _, _, _, _, _⟩ :: _) _ _; refine O_ev WideF.wide rfl (Ev_fieldAddr rfl rfl rfl) rfl rfl ?_) | (show opsA _ _ _ _ (⟨_, .call _, _, _, _, _⟩ :: _) _ _; refine O_ev WideF.wide rfl (Ev_slen rfl) rfl rfl ?_) | (show opsA _ _ _ _ (⟨_, .unOp _ _ _, _, _, _, _⟩ :: _) _ _; refine O_ev WideF.wide rfl (Ev_notb rfl) rfl rfl ?_) | (show opsA _ _ _ _ (⟨_, .build _ _, _, _, _, _⟩ :: _) _ _; refine O_ev WideF.wide rfl (Ev_build (vs := [(_, _)]) ⟨rfl, rfl, trivial⟩ rfl) rfl rfl ?_) | (show opsA _ _ _ _ (⟨_, .nilCheck _, _, _, _, _⟩ :: _) _ _; refine O_ev WideF.wide rfl (Ev_nilCheck rfl) rfl rfl ?_)) | (show wpA _ _ _ (.cond _ _ _) _ _ _ _; first | (refine A_if rfl (fun h => ?_) (fun h => ?_) <;> try (exfalso; omega)) | refine A_iffalse rfl ?_))
        all_goals have e' := tplE_scanned h1 h2 h3 hS
        all_goals by_cases he : e = 0
        all_goals first
          | (exfalso; omega)
          | (rw [if_neg he] at e'
             exact End_nilrow 3 (Ret2 rfl rfl rfl) (by unfold ParseO; rw [e']; exact ⟨none, 0, rfl, rfl⟩))
          | (subst he
             rw [if_pos rfl] at e'
             refine End_s (Ret2 rfl rfl rfl) ?_
             refine Shift.to (s' := ⟨35, [], _, [.row (.slice a1 parts.length c1) 3 (parts.map prow)], [], []⟩) ⟨rfl, ?_⟩ ⟨rfl, rfl, rfl, trivial, Own.subi [0] (by decide) rfl rfl⟩
             unfold ParseO
             rw [e']
             exact ⟨a1, c1, rfl, rfl⟩)
    · have e : tplE s = ([], 12) := by rw [tplE_def, if_neg h1, if_pos h2]
      simp only [decide_eq_false h2] at hv
      unfold ParseO
      rw [e]
      refine Fn_of _ _ Tryz.func14 rfl Tryz.ntmps14 rfl fun c => ?_
      repeat' (first | (refine O_ef rfl (Ef_callp WideF.wide (hv _) ⟨rfl, trivial⟩ rfl ?_)) | refine O_nil ?_ | refine A_seq ?_ | refine A_region ?_ | refine A_ret ?_ | refine A_block ?_ | (show opsA _ _ _ _ _ _ _; first | refine O_ev WideF.wide rfl (Ev_pure rfl) rfl rfl ?_ | (show opsA _ _ _ _ (⟨_, .call _, _, _, _, _⟩ :: _) _ _; refine O_ev WideF.wide rfl (Ev_slen rfl) rfl rfl ?_) | (show opsA _ _ _ _ (⟨_, .unOp _ _ _, _, _, _, _⟩ :: _) _ _; refine O_ev WideF.wide rfl (Ev_notb rfl) rfl rfl ?_)) | (show wpA _ _ _ (.cond _ _ _) _ _ _ _; first | (refine A_if rfl (fun h => ?_) (fun h => ?_) <;> try (exfalso; omega)) | refine A_iftrue rfl ?_))
      all_goals first
        | (exfalso; omega)
        | exact End_nilrow 3 (Ret2 rfl rfl rfl) ⟨none, 0, rfl, rfl⟩
theorem lParse_fn {H : Hp} {s : List UInt8} (hs : s.length < 1099511627776) : Fn Tryz.prog 14 [sv s] H [] (ParseH s) :=
  (Parse_own hs).frozen fun v H' I' ⟨a, c, hv, hI⟩ => ⟨a, _, c, 3, _, hI, prow_one _, fun H'' _ hr => ⟨a, _, c, hv, hr, rfl⟩⟩
end Go.Proofs.YtaneeaojlkenmaaGreatDoor
