/-
  slices.Clone; run.CloneHead.
-/
import Derived.Test.YtofkolbnhcckkaaGreatR11
import Derived.Test.YtofkolbnhcckkaaGreatA11
namespace Go.Proofs.YtofkolbnhcckkaaGreat
open Go
set_option linter.unusedVariables false
set_option linter.unusedSimpArgs false
attribute [local irreducible] wpA opsA drJ drQ drE Ef Ev Shift Fn

/-- what is handed back may be seen otherwise -/
theorem Fn.shift {P : Program} {f : FuncId} {args : List Value} {H : Hp} {I : Own} {post post' : Value → Hp → Own → Prop} (h : Fn P f args H I post)
    (hp : ∀ (c : Ctx) (w : World) v H' I', Holds c H' I' w → post v H' I' → ∃ H'' I'', Holds c H'' I'' w ∧ post' v H'' I'') : Fn P f args H I post' := by
  unfold Fn at *
  intro w hw
  refine (h w hw).mono ?_
  rintro e w' ⟨v, H', I', he, hh, hq⟩
  obtain ⟨H'', I'', h1, h2⟩ := hp _ w' v H' I' hh hq
  exact ⟨v, H'', I'', he, h1, h2⟩
set_option maxRecDepth 100000 in
theorem CloneProp_fn {H : Hp} {a : Option Addr} {n cp : Nat} {css : List (List Value)} (hr : HRow H a n cp 2 css) (hl : n < 68719476736) : Fn Tryz.prog 80 [.slice a n cp] H [] fun v H' I' => H' = H ∧ ∃ a' c', v = .slice a' n c' ∧ I' = [.row v 2 css] := by
  have hn := hr.len
  cases a with
  | none =>
    obtain ⟨rfl, rfl⟩ := hr.nil rfl
    have hcss : css = [] := List.eq_nil_of_length_eq_zero hn
    subst hcss
    refine Fn_of _ _ Tryz.func80 rfl Tryz.ntmps80 rfl fun c => ?_
    refine A_nilrow 2 ?_
    repeat' (first | (refine O_ev WideF.wide rfl (Ev_eqnil rfl rfl) rfl rfl ?_) | refine O_nil ?_ | refine A_seq ?_ | refine A_region ?_ | refine A_ret ?_ | (show opsA _ _ _ _ _ _ _; refine O_ev WideF.wide rfl (Ev_pure rfl) rfl rfl ?_) | (show wpA _ _ _ (.cond _ _ _) _ _ _ _; refine A_iftrue rfl ?_))
    exact End_m (Ret1 rfl rfl) ⟨rfl, none, 0, rfl, rfl⟩
  | some ad =>
    refine Fn_of _ _ Tryz.func80 rfl Tryz.ntmps80 rfl fun c => ?_
    repeat' (first | (refine O_ev WideF.wide rfl (Ev_eqnil rfl rfl) rfl rfl ?_) | (refine O_ef rfl (Ef_build0 WideF.wide rfl ?_); intro b) | (refine O_ef rfl (Ef_appendH WideF.wide rfl rfl hr rfl rfl (by simp; omega) (by simp; omega) rfl ?_); intro a' c') | refine O_nil ?_ | refine A_seq ?_ | refine A_region ?_ | refine A_skip ?_ | refine A_ret ?_ | (show opsA _ _ _ _ _ _ _; refine O_ev WideF.wide rfl (Ev_pure rfl) rfl rfl ?_) | (show wpA _ _ _ (.cond _ _ _) _ _ _ _; refine A_iffalse rfl ?_))
    exact End_m (Ret1 rfl rfl) ⟨rfl, a', c', by simp [hn], by simp⟩
set_option maxRecDepth 100000 in
theorem CloneDel_fn {H : Hp} {a : Option Addr} {n cp : Nat} {css : List (List Value)} (hr : HRow H a n cp 2 css) (hl : n < 68719476736) : Fn Tryz.prog 81 [.slice a n cp] H [] fun v H' I' => H' = H ∧ ∃ a' c', v = .slice a' n c' ∧ I' = [.row v 2 css] := by
  have hn := hr.len
  cases a with
  | none =>
    obtain ⟨rfl, rfl⟩ := hr.nil rfl
    have hcss : css = [] := List.eq_nil_of_length_eq_zero hn
    subst hcss
    refine Fn_of _ _ Tryz.func81 rfl Tryz.ntmps81 rfl fun c => ?_
    refine A_nilrow 2 ?_
    repeat' (first | (refine O_ev WideF.wide rfl (Ev_eqnil rfl rfl) rfl rfl ?_) | refine O_nil ?_ | refine A_seq ?_ | refine A_region ?_ | refine A_ret ?_ | (show opsA _ _ _ _ _ _ _; refine O_ev WideF.wide rfl (Ev_pure rfl) rfl rfl ?_) | (show wpA _ _ _ (.cond _ _ _) _ _ _ _; refine A_iftrue rfl ?_))
    exact End_m (Ret1 rfl rfl) ⟨rfl, none, 0, rfl, rfl⟩
  | some ad =>
    refine Fn_of _ _ Tryz.func81 rfl Tryz.ntmps81 rfl fun c => ?_
    repeat' (first | (refine O_ev WideF.wide rfl (Ev_eqnil rfl rfl) rfl rfl ?_) | (refine O_ef rfl (Ef_build0 WideF.wide rfl ?_); intro b) | (refine O_ef rfl (Ef_appendH WideF.wide rfl rfl hr rfl rfl (by simp; omega) (by simp; omega) rfl ?_); intro a' c') | refine O_nil ?_ | refine A_seq ?_ | refine A_region ?_ | refine A_skip ?_ | refine A_ret ?_ | (show opsA _ _ _ _ _ _ _; refine O_ev WideF.wide rfl (Ev_pure rfl) rfl rfl ?_) | (show wpA _ _ _ (.cond _ _ _) _ _ _ _; refine A_iffalse rfl ?_))
    exact End_m (Ret1 rfl rfl) ⟨rfl, a', c', by simp [hn], by simp⟩
set_option maxRecDepth 100000 in
theorem CloneLayer_fn {H : Hp} {a : Option Addr} {n cp : Nat} {css : List (List Value)} (hr : HRow H a n cp 4 css) (hl : n < 68719476736) : Fn Tryz.prog 82 [.slice a n cp] H [] fun v H' I' => H' = H ∧ ∃ a' c', v = .slice a' n c' ∧ I' = [.row v 4 css] := by
  have hn := hr.len
  cases a with
  | none =>
    obtain ⟨rfl, rfl⟩ := hr.nil rfl
    have hcss : css = [] := List.eq_nil_of_length_eq_zero hn
    subst hcss
    refine Fn_of _ _ Tryz.func82 rfl Tryz.ntmps82 rfl fun c => ?_
    refine A_nilrow 4 ?_
    repeat' (first | (refine O_ev WideF.wide rfl (Ev_eqnil rfl rfl) rfl rfl ?_) | refine O_nil ?_ | refine A_seq ?_ | refine A_region ?_ | refine A_ret ?_ | (show opsA _ _ _ _ _ _ _; refine O_ev WideF.wide rfl (Ev_pure rfl) rfl rfl ?_) | (show wpA _ _ _ (.cond _ _ _) _ _ _ _; refine A_iftrue rfl ?_))
    exact End_m (Ret1 rfl rfl) ⟨rfl, none, 0, rfl, rfl⟩
  | some ad =>
    refine Fn_of _ _ Tryz.func82 rfl Tryz.ntmps82 rfl fun c => ?_
    repeat' (first | (refine O_ev WideF.wide rfl (Ev_eqnil rfl rfl) rfl rfl ?_) | (refine O_ef rfl (Ef_build0 WideF.wide rfl ?_); intro b) | (refine O_ef rfl (Ef_appendH WideF.wide rfl rfl hr rfl rfl (by simp; omega) (by simp; omega) rfl ?_); intro a' c') | refine O_nil ?_ | refine A_seq ?_ | refine A_region ?_ | refine A_skip ?_ | refine A_ret ?_ | (show opsA _ _ _ _ _ _ _; refine O_ev WideF.wide rfl (Ev_pure rfl) rfl rfl ?_) | (show wpA _ _ _ (.cond _ _ _) _ _ _ _; refine A_iffalse rfl ?_))
    exact End_m (Ret1 rfl rfl) ⟨rfl, a', c', by simp [hn], by simp⟩

theorem prow_one (l : List Prp) : ∀ cs ∈ l.map prow, ∀ u ∈ cs, u.oneCell' = true := by
  intro cs hcs u hu
  obtain ⟨p, _, rfl⟩ := List.mem_map.1 hcs
  simp [prow] at hu
  rcases hu with rfl | rfl <;> rfl
theorem drow_one (l : List Dele) : ∀ cs ∈ l.map drow, ∀ u ∈ cs, u.oneCell' = true := by
  intro cs hcs u hu
  obtain ⟨p, _, rfl⟩ := List.mem_map.1 hcs
  simp [drow] at hu
  rcases hu with rfl | rfl <;> rfl
theorem lrow_one (l : List Layr) : ∀ cs ∈ l.map lrow, ∀ u ∈ cs, u.oneCell' = true := by
  intro cs hcs u hu
  obtain ⟨p, _, rfl⟩ := List.mem_map.1 hcs
  simp [lrow] at hu
  rcases hu with rfl | rfl | rfl | rfl <;> rfl
theorem End_s {c : Ctx} {P : Program} {fn : Func} {n : Nat} {e : Env} {H : Hp} {M L : Own} {v : Value} {post : Value → Hp → Own → Prop} (h : RetOk P fn ⟨n, e, H, M, L, []⟩ v) (hs : Shift c (fun s' => s'.L = [] ∧ post v s'.H s'.M) ⟨n, e, H, M, L, []⟩) :
    Shift c (EndOf c P fn post) ⟨n, e, H, M, L, []⟩ := Shift.pure ⟨v, h, rfl, hs⟩
set_option maxRecDepth 100000 in
/-- the head's three rows are its own -/
theorem CloneHead_own {H : Hp} {hcs : List Value} {h : Head} (hh : HeadH H hcs h) (hl : h.mass < 68719476736) : Fn Tryz.prog 53 [.agg hcs.toArray] H [] fun v H' I' => H' = H ∧
    ∃ pa pn pc da dn dc la ln lc, v = .agg [.slice pa pn pc, .int .i64 h.ins, .int .i64 h.move, .slice da dn dc, .slice la ln lc].toArray ∧
      I' = [.row (.slice pa pn pc) 2 (h.props.map prow), .row (.slice da dn dc) 2 (h.dels.map drow), .row (.slice la ln lc) 4 (h.layers.map lrow)] := by
  obtain ⟨pa, pn, pc, da, dn, dc, la, ln, lc, rfl, h1, h2, h3⟩ := hh.ex
  have l1 := h1.len
  have l2 := h2.len
  have l3 := h3.len
  simp only [List.length_map] at l1 l2 l3
  unfold Head.mass at hl
  have c1 := CloneProp_fn h1 (by omega)
  have c2 := CloneDel_fn h2 (by omega)
  have c3 := CloneLayer_fn h3 (by omega)
  refine Fn_of _ _ Tryz.func53 rfl Tryz.ntmps53 rfl fun c => ?_
  repeat' (first | (refine O_ef rfl (Ef_call (I := []) WideF.wide c1 ⟨rfl, trivial⟩ rfl ?_); rintro v H1 I1 hle1 ⟨rfl, pa', pc', rfl, rfl⟩) | refine O_nil ?_ | refine A_seq ?_ | refine A_region ?_ | (show opsA _ _ _ _ _ _ _; first | (show opsA _ _ _ _ (⟨_, .load _ _, _, _, _, _⟩ :: _) _ _; refine O_ev WideF.wide rfl (Ev_loadB1 (i := 1) rfl rfl rfl) rfl rfl ?_) | (show opsA _ _ _ _ (⟨_, .fieldAddr _ _ _, _, _, _, _⟩ :: _) _ _; refine O_ev WideF.wide rfl (Ev_fieldAddr rfl rfl rfl) rfl rfl ?_) | (show opsA _ _ _ _ (⟨_, .alloc _, _, _, _, _⟩ :: _) _ _; (refine O_ef rfl (Ef_alloc WideF.wide rfl ?_); intro b)) | (show opsA _ _ _ _ (⟨_, .box _ _, _, _, _, _⟩ :: _) _ _; (refine O_ef rfl (Ef_boxa WideF.wide rfl rfl ?_); intro b)) | (show opsA _ _ _ _ (⟨_, .store _ _ _, _, _, _, _⟩ :: _) _ _; refine O_f2 (O_ef rfl (Ef_store1 WideF.wide rfl rfl rfl rfl rfl ?_)))))
  (refine A_drawi WideF.wide (.q 0 (.q 1 (.q 2 (.q 4 (.q 5 (.q 6 (.e 3 (.r (.q 8 (.q 9 (.e 7 (.e 10 (.q 11 (.q 12 (.e 13 (.done [])))))))))))))))) [7, 8, 9, 10, 11, 12, 13] [1, 2] [0] (by decide +kernel) (by decide) rfl ?_; simp only [Own.picks, Own.rget, List.cons_append, List.nil_append, List.append_nil])
  repeat' (first | (refine E_ef rfl (Ef_call (I := []) WideF.wide c2 ⟨rfl, trivial⟩ rfl ?_); rintro v H2 I2 hle2 ⟨rfl, da', dc', rfl, rfl⟩; refine ⟨Grow.same rfl rfl, ?_⟩) | (refine E_ef rfl (Ef_call (I := []) WideF.wide c3 ⟨rfl, trivial⟩ rfl ?_); rintro v H3 I3 hle3 ⟨rfl, la', lc', rfl, rfl⟩; refine ⟨Grow.same rfl rfl, ?_⟩) | refine O_nil ?_ | refine A_seq ?_ | refine A_region ?_ | refine A_ret ?_ | (show drJ _ _ _ _ _ _ _ (.q _ _) _; refine D_q rfl ?_) | (show drJ _ _ _ _ _ _ _ (.e _ _) _; refine D_e rfl ?_) | (show drJ _ _ _ _ _ _ _ (.r _) _; refine D_r ?_; simp only [List.cons_append, List.nil_append]) | (show drJ _ _ _ _ _ _ _ (.done _) _; refine D_done ?_; simp only [List.cons_append, List.nil_append]) | (show drQ _ _ _ _ _ _; first | (show drQ _ _ _ ⟨_, .load _ _, _, _, _, _⟩ _ _; refine D_ev rfl (Ev_loadB1 (i := 0) rfl rfl rfl) rfl rfl ?_) | (show drQ _ _ _ ⟨_, .fieldAddr _ _ _, _, _, _, _⟩ _ _; refine D_ev rfl (Ev_fieldAddr rfl rfl rfl) rfl rfl ?_)) | (show drE _ _ _ _ _ _ _; (show drE _ _ _ _ ⟨_, .store _ _ _, _, _, _, _⟩ _ _; first | (refine E_ef rfl (Ef_store1 WideF.wide rfl rfl rfl rfl rfl ?_); refine ⟨Grow.same rfl rfl, ?_⟩) | (refine E_ef rfl (Ef_f4 (Ef_store1 WideF.wide rfl rfl rfl rfl rfl ?_)); refine ⟨Grow.same rfl rfl, ?_⟩))) | (show opsA _ _ _ _ _ _ _; first | (show opsA _ _ _ _ (⟨_, .load _ _, _, _, _, _⟩ :: _) _ _; refine O_ev WideF.wide rfl (Ev_loadB (i := 0) rfl rfl rfl) rfl rfl ?_) | (show opsA _ _ _ _ (⟨_, .store _ _ _, _, _, _, _⟩ :: _) _ _; refine O_f4 (O_ef rfl (Ef_storew WideF.wide rfl rfl rfl rfl rfl ?_)))))
  refine End_s (RetC rfl rfl (i := 0) rfl rfl) ?_
  refine Shift.lek ⟨20, [], _, [.row (.slice pa' pn pc') 2 (h.props.map prow), .row (.slice da' dn dc') 2 (h.dels.map drow), .row (.slice la' ln lc') 4 (h.layers.map lrow)], [], []⟩ ⟨rfl, rfl, rfl, trivial, Own.subi [4, 3, 2] (by decide) rfl rfl⟩ ?_
  exact Shift.pure ⟨rfl, rfl, pa', pn, pc', da', dn, dc', la', ln, lc', rfl, rfl⟩
theorem CloneHead_fn {H : Hp} {hcs : List Value} {h : Head} (hh : HeadH H hcs h) (hl : h.mass < 68719476736) : Fn Tryz.prog 53 [.agg hcs.toArray] H [] fun v H' I' => (∃ pa pn pc da dn dc la ln lc, v = .agg [.slice pa pn pc, .int .i64 h.ins, .int .i64 h.move, .slice da dn dc, .slice la ln lc].toArray ∧
    HRow H' pa pn pc 2 (h.props.map prow) ∧ HRow H' da dn dc 2 (h.dels.map drow) ∧ HRow H' la ln lc 4 (h.layers.map lrow)) ∧ I' = [] := by
  refine (CloneHead_own hh hl).shift ?_
  rintro c w v H' I' hw ⟨rfl, pa, pn, pc, da, dn, dc, la, ln, lc, rfl, rfl⟩
  obtain ⟨H1, hle1, hr1, hw1⟩ := hw.freeze (prow_one _)
  obtain ⟨H2, hle2, hr2, hw2⟩ := hw1.freeze (drow_one _)
  obtain ⟨H3, hle3, hr3, hw3⟩ := hw2.freeze (lrow_one _)
  exact ⟨H3, [], hw3, ⟨pa, pn, pc, da, dn, dc, la, ln, lc, rfl, hr1.mono (hle2.trans hle3), hr2.mono hle3, hr3⟩, rfl⟩
end Go.Proofs.YtofkolbnhcckkaaGreat
